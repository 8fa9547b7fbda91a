/- The engine that computes runs; no conditions. -/
import Derived.Test.YtjecbkgdndjejaaGreatDoorFreeB2
import Derived.Test.YtjecbkgdndjejaaGreatDoorFreeA4
set_option linter.all false
namespace Go.Lg
def WT(f:LA)(P:Program)(call:XB)(N g h rd:Nat):Code->IS->Di->(Array Oper->Code->IS->Di->Prop)->Prop
 |.seq a b,s,c,k=>match oJ rd a with
  |true=>match a with|.region _ d false=>k d b s c|_=>False
  |false=>AD f P call N g h a s c λe s c=>match e with|.normal=>WT f P call N g h rd b s c k|_=>False
 |_,_,_,_=>False
def z8(a:Nat->Option (List PV))(s:IS)(co:Array Operand):List V:=co.toList.map (s.val a)
def VQ(g:LA)(P:Program)(call:XB)(N h f rg i:Nat)(p:PV):Code->IS->Di->(IS->List Nat->Prop)->Prop
 |.seq a b,s,d,k=>match oJ rg a with
  |true=>VQ g P call N h f rg i p a s d k|false=>AD g P call N h f a s d λe s d=>match e with|.normal=>VQ g P call N h f rg i p b s d k|_=>False
 |.region _ c false,s,d,k=>UQ g P call h f c.toList i p c.toList (sJ f (NH c.toList) s) d k|_,_,_,_=>False
def WQ(s:Tr Ob):List (Nat×Ob)->Prop->Prop|[],R=>R|(n,o)::r,R=>s.get n=some o/\WQ s r R
def kN(T:Nat->Option TI)(s:IS)(a:List ResultVar)(x:V):Prop:=match RM T s a with|some a=>gO a=x|none=>False
def XT(b:LA)(P:Program)(N n f:Nat)(a:List V)(co:List (Nat×Ob))(m g:Nat)(h:Di)(p:PV)(x:V)(d:List (Nat×Ob)):Prop:=match b.F f with
 |some fn=>match fn.body with
  |some (.seq _ c)=>gd (uG (kC co)) (gd (ZG m (kC co)) (AD b P (dG b P N n) N fn.ntmps m c ⟨XC (yE 0 a .nil) (some g) (.pv p),KB co .nil,m,[]⟩ h λe s _=>match e with|.exit _=>False|_=>WQ s.ob d (kN b.T s fn.results.toList x)))
  |_=>False
 |none=>False
def YT(b:LA)(P:Program)(N n f rd:Nat)(args:List PV)(h i:Oper)(co:Array Operand)(a:List V)(g j:Nat)(d:Di)(k:Func->Code->IS->Di->Prop):Prop:=match b.F f with
 |some fn=>match fn.body with
  |some c=>gd (Nat.ble args.length fn.ntmps) (gd (Nat.blt g fn.ntmps) (WT b P (dG b P N n) N fn.ntmps 0 rd c ⟨yE 0 (args.map .pv) .nil,.nil,0,[]⟩ d λe l s d=>
   e= #[h,i]/\co.toList.map (s.val b.gl)=a/\gd (ZG s.nx (BA a)) (k fn l ⟨XC s.sl (some g) (.fn j a),s.ob,s.nx,s.dt⟩ d)))
  |none=>False
 |none=>False
def ZT(b:LA)(P:Program)(N n f rd:Nat)(args:List PV)(g h:Oper)(co:Array Operand)(a:List V)(i j:Nat)(d:Di)(x:PV):Prop:=
 YT b P N n f rd args g h co a i j d λfn c s d=>AD b P (dG b P N n) N fn.ntmps s.nx c s d λe s _=>match e with|.exit _=>False|_=>kN b.T s fn.results.toList (.pv x)
def Df(b:LA)(P:Program)(N n f rd rg h:Nat)(args:List PV)(i j:Oper)(co:Array Operand)(a:List V)(k l:Nat)(g d:List (Nat×Ob))(e:Di)(p x:PV):Prop:=
 YT b P N n f rd args i j co a k l e λfn c s e=>VQ b P (dG b P N n) N fn.ntmps s.nx rg h p c s e λs ro=>
  WQ s.ob g (gd (BO ro (kC g)) (kN b.T ⟨s.sl,KB d .nil,0,[]⟩ fn.results.toList (.pv x)))
section
variable{ev:LA}{P:Program}
inductive Pre(ev:LA)(P:Program)(nt bs:Nat):Code->IS->Code->IS->Prop|nil (c:Code) (s:IS):Pre ev P nt bs c s c s|cons {a b c:Code} {s s1 s2:IS} (h:Reach ev P nt bs a s .normal s1) (h':Pre ev P nt bs b s1 c s2):Pre ev P nt bs (.seq a b) s c s2
def Ef{call:XB}(m:oF ev P call){N n o rd:Nat}{k:Array Oper->Code->IS->Di->Prop}:∀(c:Code)(s:IS)(g:Di),WT ev P call N n o rd c s g k->∃id d i j f,Pre ev P n o c s (.seq (.region id d false) i) j/\k d i j f
 |.seq a b,s,g,h=>by
  unfold WT at h;split at h
  ·split at h
   ·rename_i id d _;exact⟨id,d,b,s,g,.nil _ _,h⟩
   exact h.elim
  obtain⟨e,j,f,r,p⟩:=oC m a s g _ h
  cases e with
  |normal=>
   obtain⟨id,d,i,t,l,u,v⟩:=Ef m b j f p;exact⟨id,d,i,t,l,.cons r u,v⟩
  |_=>exact p.elim
 |.skip,_,_,h=>h.elim|.exit _,_,_,h=>h.elim|.ret,_,_,h=>h.elim|.loop _,_,_,h=>h.elim|.label _,_,_,h=>h.elim|.rangeFunc _ _ _ _,_,_,h=>h.elim|.goto _,_,_,h=>h.elim|.refuse _,_,_,h=>h.elim|.region _ _ _,_,_,h=>h.elim|.block _ _,_,_,h=>h.elim|.scope _,_,_,h=>h.elim|.cond _ _ _,_,_,h=>h.elim
def Pre.wp{b d:Nat}{X:Env1}(j:HX X ev P b d){c f:Code}{s g:IS}(h:Pre ev P b d c s f g):∀{C:Ctx}{E:Env}{σ:St}{a:Act}{w:World}{Q:Exit->Act->World->Prop},dI X C->Rel s σ->Ga C E σ a w->
  (∀d σ' b w',Rel g σ'->Ga C d σ' b w'->f.wp X.P Q b w')->c.wp X.P Q a w:=by
 induction h with
 |nil c s=>exactλ_ b d f=>f _ _ _ _ b d|cons g _ k=>
  intro C E σ a w Q i b d f;refine wp_seq (wp_mono (g.awp X j σ b C E a w i d) ?_)
  rintro e b b ⟨b,σ1,b,d,b,rfl,g⟩
  cases b;exact k i g d f
def AC.rescue{X:Env1}{f h:Nat}{fn:Func}{c A:Code}{id p g:Nat}{j s:Oper}{co:Array Operand}(D:HX X ev P X.nt h)(C:X.P.funcs[f]? =some fn)(J:fn.body=some c)(b:(fn.name== "runtime.NumGoroutine")=false)(t:fn.ntmps=X.nt)
  (B:RS X.P g)
  (F:j.op=.makeFunc (.func g) #[] co) (u:j.dst=some p) (G:j.guard=none) (H:p<X.nt)
  (I:s.op=.defer {callee:=.value (.tmp p),args:=#[],argTypes:=#[]}) (K:s.dst=none) (L:s.guard=none)
  {args:List PV} {x:PV} (a:X.given=[]) (z:args.length<=X.nt)
  {k:IS} (N:Pre ev P X.nt h c ⟨yE 0 (args.map .pv) .nil,.nil,h,[]⟩ (.seq (.region id #[j,s] false) A) k) {a:List V} (l:co.toList.map (k.val X.gl)=a) (M:cX X.P g a.length)
  (S:∀σ1,Rel k σ1->AWP (X.more (BA a)) A ⟨(p,.fn g a)::σ1.slots,σ1.objs,σ1.used⟩ (Fd X fn.results.toList g a (.pv x) [])):AC X.P X.gl f (args.map .pv) [] (.ret (.pv x)) []:=by
 refine⟨⟨fn,C,b,by rw[J];rfl⟩,by simp[Out.names,V.names],by simp[zA],?_⟩;intro E w b k O Q;refine calls_of_wp_defers C J ?_;let C:Ctx:=⟨E,w,[],[],X.nt,[]⟩;have A:dI X C:=⟨k.glob,rfl,λn o b=>(by cases b),λn b=>(by cases b),by simp[C,WF]⟩;have k:uI X.gl E w []:=k;have T:=Ga.entry (X:=X) (fn:=fn) (args:=args.map .pv) (objs:=[]) (ms:=[]) t (by simpa using z) (by simp) (by rw[PY];simp[tE,lC,jA]) k O Q;refine N.wp D A (SY (objs:=[]) (m:=h) List.nodup_nil (by simp[jA])) T ?_;intro h σ' z h D N;refine wp_seq ?_;refine wp_region_list ?_
 --t h
 obtain⟨v,Q,O,h,k,_⟩:=UW (P:=X.P) (T:=X.T) (note:=.none) (gl:=X.gl) (o:=j) (r:=R.of (.fn g a)) X.ok A.glob N (by intro d N;rw[u]at N;cases N;exact H) (by rw[F];simp only[gA];rw[D.val,l];simp) trivial (by intro n y l;cases l);unfold wpList;rw[if_pos (by simp[Region.wanted,G])];left;refine h.wp ?_;have l:σ'.app j.dst (R.of (.fn g a))=⟨(p,.fn g a)::σ'.slots,σ'.objs,σ'.used⟩:=by rw[u];rfl
 rw[l]at k;unfold wpList;rw[if_pos (by simp[Region.wanted,L])];left;have l:=k.slots p;simp only[IA,if_true,RepV]at l;obtain⟨u,F,G,H⟩:=l;have L:∀n∈BA a,n∈σ'.used:=by
  intro n b;have:=k.usedS p n;simp only[IA,if_true,V.names]at this;exact this b
 have l:(execOp (z.put j.dst v).eval s).run X.P Q=.ok (.defer {target:=.fn (.func g) u.toArray,args:=#[]}) Q:=by
  simp[execOp,I,resolve,Act.eval,F,Deferred.ofValue]
 unfold Oper.wp;rw[l,Oper.upon_defer];simp only[wpList];have l:=k.defer (f:=g) G H L;have k:({z.put j.dst v with defers:={target:=.fn (.func g) u.toArray,args:=#[]}::(z.put j.dst v).defers}:Act).put s.dst undef={z.put j.dst v with defers:={target:=.fn (.func g) u.toArray,args:=#[]}::(z.put j.dst v).defers}:=by rw[K];rfl
 rw[k];show Code.wp _ _ _ _ _;have j:dI (X.more (BA a)) {C with defs:=(g,a)::C.defs}:=
  ⟨A.glob,A.nt,λn o b=>List.mem_append.2 (.inl (A.given n o b)),λn b=>List.mem_append.2 (.inl (A.ms n b)),λn b=>by
   refine List.mem_append.2 (.inr ?_);simpa[C,WF]using b⟩
 refine wp_mono (S σ' D _ _ _ _ j l) ?_
 rintro e G D ⟨K,σ3,T,j,l,F⟩
 obtain⟨k,p,s,u,H,p⟩:=j.defers.1;cases p
 --t results and t p at t end
 have S:∀(z:Env)(σ4:St)(t:Act)(p:World),t.tmps=G.tmps->Ga {C with defs:=(g,a)::C.defs} z σ4 t p->qG X σ4 fn.results.toList=some (.pv x)->lB [] σ4.objs->
   ∃v,(results fn G.tmps).run X.P p=.ok v p/\∃C,EH E w [] C p []/\mQ C (.ret (.pv x)) (.returned v):=by
  intro z σ4 t p Q t h a;obtain⟨v,L,p⟩:=gX X.ok t h;obtain⟨O,N,U,I⟩:=t.done (objs':=[]) (λm o I=>by cases I) a;refine⟨v,by rw[<-Q];exact L,O,N,v,rfl,?_⟩;exact RepV.mono (E:=z) (E':=O) (by rw[U];exact Hle.refl _) (.pv x) v (by simp[V.names]) p
 have z:∀w,(invoke (.fn (.func g) k.toArray) #[]).run X.P w=.ok (.enter g k.toArray) w:=by
  intro w;obtain⟨fnc,O,Q,p⟩:=B;have J:¬fnc.body=none:=by intro e;rw[e]at p;cases p
  have p:¬fnc.name= "runtime.NumGoroutine" :=by simpa using Q
  simp[invoke,callFunc,O,p,J]
 have p:qG X σ3 fn.results.toList=some (.pv x)->lB [] σ3.objs->Leaves X.P fn G.tmps (λe J=>∃C,EH E w [] C J []/\mQ C (.ret (.pv x)) e) G.defers .returning D:=by
  intro B C;rw[s];refine leaves_cons (f:=g) (args:=k.toArray) (by simp) (z D) ?_;refine(M D k u).mono ?_
  rintro e M J ⟨⟨r,rfl⟩,rfl,rfl⟩
  simp only[settle,Leaves];exact S K σ3 G J rfl j B C
 cases T with
 |normal=>cases l;exact p F.1 F.2
 |ret=>cases l;exact p F.1 F.2
 |exit i=>exact F.elim
 |panic p=>
  obtain⟨v,rfl,L⟩:=l;obtain⟨G,l,l,a,B,p,h,C⟩:=F;have F:=AK a;show Leaves _ _ _ _ _ _ _;rw[s];refine leaves_cons (f:=g) (args:=k.toArray) (by simp) (z D) ?_;have a:uI X.gl K D G:=⟨j.heap,A.glob.mono j.hle,λn o b=>j.objs n o (F n o b),λn m o g b I=>j.apart n m o g (F n o b) (F m g I)⟩;refine(l K D k v a u H L).mono ?_
  rintro e M J ⟨⟨r,rfl⟩,rfl,a,N⟩
  have t:=j.called (dst:=none) (x:=.undef) (v:=undef) (ment:=[]) N F (by intro n b;rw[B]at b;exact .inl b) (by simp) (by
   intro m o I n b;have:=(HM I).2 n b;rw[p]at this;exact .inr (.inl this)) (by simp[RepV]) (by simp[V.names]) (by simp)
  exact S a _ _ J rfl t h C
theorem Rel.put{s:IS}{σ:St}(h:Rel s σ)(t:Nat)(v:V):Rel ⟨XC s.sl (some t) v,s.ob,s.nx,s.dt⟩ ⟨(t,v)::σ.slots,σ.objs,σ.used⟩:=by
 refine⟨λk=>?_,h.ob,h.us⟩;show IA ((t,v)::σ.slots) k=_;simp only[XC,Tr.get_put,IA];by_cases e:k=t
 ·simp[e]
 have a:¬t=k:=λh=>e h.symm
 simp[e,a,h.sl k]
def TY{s:Tr Ob}{R:Prop}:∀{l:List (Nat×Ob)},WQ s l R->(∀p∈l,s.get p.1=some p.2)/\R
 |[],h=>⟨by simp,h⟩|(n,o)::r,⟨h,a⟩=>by
  obtain⟨b,c⟩:=TY a;refine⟨λp a=>?_,c⟩;rcases List.mem_cons.1 a with rfl|a
  ·exact h
  exact b p a
def UY{X:Env1}(b:X.T=ev.T){s:IS}{σ:St}(c:Rel s σ){a:List ResultVar}{x:V}(h:kN ev.T s a x):qG X σ a=some x:=by
 unfold kN at h;unfold qG;rw[<-uY b c];split at h
 ·rename_i d e;rw[e,<-h];rfl
 exact h.elim
def mr(j:kG ev P){N n k m l id:Nat}{fn:Func}{o:Oper}{c:Code}{a:List V}{co b:List (Nat×Ob)}{d:Di}{p:PV}{x:V}(h:XT ev P N n k a co m l d p x b)(A:ev.F k=some fn)(B:fn.body=some (.seq (.region id #[o] false) c))
  (d:∀ρ w,(execOp ρ o).run P w=.ok .recover w) (f:o.dst=some l) (s:o.guard=none) (t:l<fn.ntmps) (u:a.length<=fn.ntmps) (v:tE (BA a++lC co) (jA co)) (y:tE (lC b) (jA co++jA b)):iQ P ev.gl k a co p b:=by
 unfold XT at h;rw[A]at h;simp only[B]at h;obtain⟨r,h⟩:=HB h;obtain⟨g,h⟩:=HB h;rw[fG]at r g;have r:=HO r;have g:=ZM g;obtain⟨e,C,z,D,z⟩:=oC (OH j N n) _ _ _ _ h;let X:Env1:=⟨P,ev.T,ev.gl,[],fn.ntmps,jA co,j.T,j.mix⟩;have E:HX X ev P fn.ntmps m:=⟨rfl,rfl,rfl,rfl,g⟩;refine Yo (X:=X) (j.F k fn A).1 B rfl d f s t rfl u v y (x:=x) ?_;refine AWP.mono (D.awp X E _ ((SY (args:=a) r g).put l (.pv p))) ?_
 rintro a σ' ⟨rfl,a⟩
 have key:WQ C.ob b (kN ev.T C fn.results.toList x)->IM X σ' fn.results.toList (.ret x)/\lB b σ'.objs:=λh=>by
  obtain⟨b,d⟩:=TY h;exact⟨UY rfl a d,VM λq d=>(a.ob _).trans (b q d)⟩
 cases e with|exit i=>exact z.elim|normal=>exact key z|ret=>exact key z
structure qU(ev:LA)(P:Program)(f:Nat)(o1 o2:Oper)(co:Array Operand)(caps:List V)(tf fc:Nat):Prop where
 dir:RS P fc
 m1:o1.op=.makeFunc (.func fc) #[] co
 d1:o1.dst=some tf
 g1:o1.guard=none
 m2:o2.op=.defer {callee:=.value (.tmp tf),args:=#[],argTypes:=#[]}
 d2:o2.dst=none
 g2:o2.guard=none
 id:cX P fc caps.length
def Ff(g:kG ev P){N n f rd i e:Nat}{args:List PV}{p r:Oper}{co:Array Operand}{a:List V}{t:Di}{k:Func->Code->IS->Di->Prop}(h:YT ev P N n f rd args p r co a i e t k)(D:qU ev P f p r co a i e){x:PV}
  (u:∀fn j s b X,HX X ev P fn.ntmps s.nx->X.nt=fn.ntmps->k fn j s b->∀σ,Rel s σ->∀Y:Env1,Y.P=P->Y.T=ev.T->Y.gl=ev.gl->AWP X j σ (Fd Y fn.results.toList e a (.pv x) [])):AC P ev.gl f (args.map .pv) [] (.ret (.pv x)) []:=by
 unfold YT at h;split at h
 ·rename_i fn v;split at h
  ·rename_i c w;obtain⟨y,h⟩:=HB h;obtain⟨z,h⟩:=HB h;obtain⟨m,d⟩:=g.F f fn v;let X:Env1:=⟨P,ev.T,ev.gl,[],fn.ntmps,[],g.T,g.mix⟩;have A:HX X ev P fn.ntmps 0:=⟨rfl,rfl,rfl,rfl,by simp[X]⟩;obtain⟨id,B,j,l,b,C,rfl,E,F⟩:=Ef (OH g N n) _ _ _ h;obtain⟨G,H⟩:=HB F;refine AC.rescue (X:=X) A m w d rfl D.dir D.m1 D.d1 D.g1 (by rwa[Nat.blt_eq]at z) D.m2 D.d2 D.g2 rfl (Nat.le_of_ble_eq_true y) C E D.id ?_;intro σ1 o;exact u fn j ⟨XC l.sl (some i) (.fn e a),l.ob,l.nx,l.dt⟩ b (X.more (BA a)) ⟨rfl,rfl,rfl,rfl,λn I=>ZM G n (by simpa[X,Env1.more]using I)⟩ rfl H _ (o.put i (.fn e a)) X rfl rfl rfl
  exact h.elim
 exact h.elim
def VY(c:kG ev P){N n f rd b d:Nat}{args:List PV}{g j:Oper}{co:Array Operand}{a:List V}{k:Di}{x:PV}(h:ZT ev P N n f rd args g j co a b d k x)(D:qU ev P f g j co a b d):AC P ev.gl f (args.map .pv) [] (.ret (.pv x)) []:=by
 refine Ff c h D ?_;intro fn a s a X a b h σ g Y b d b;obtain⟨e,b,b,j,b⟩:=oC (OH c N n) _ _ _ _ h;refine AWP.mono (j.awp X a σ g) ?_
 rintro a σ' ⟨rfl,a⟩
 cases e with|exit i=>exact b.elim|normal=>exact⟨UY d a b,trivial⟩|ret=>exact⟨UY d a b,trivial⟩
def Gf(p:PV)(k:IS->List Nat->Prop):yB->St->Prop:=λa τ=>a=.panic p/\∃s ro,k s ro/\(∀n,n∉ro->zA τ.objs n=s.ob.get n)/\∀t,IA τ.slots t=(match s.sl.get t with|some v=>v|none=>.undef)
def WY{call:XB}(g:oF ev P call){N f j rg i:Nat}{p:PV}{k:IS->List Nat->Prop}:∀(c:Code)(s:IS)(d:Di),VQ ev P call N f j rg i p c s d k->∀X,HX X ev P f j->∀σ,Rel s σ->AWP X c σ (Gf p k)
 |.seq a b,s,d,h,X,f,σ,i=>by
  unfold VQ at h;split at h
  ·refine AWP.seq (AWP.mono (WY g a s d h X f σ i) ?_)
   rintro m σ' ⟨rfl,h⟩
   exact⟨rfl,h⟩
  obtain⟨e,o,l,r,n⟩:=oC g a s d _ h;refine AWP.seq (AWP.mono (r.awp X f σ i) ?_)
  rintro m σ' ⟨rfl,m⟩
  cases e with|normal=>exact WY g b o l n X f σ' m|_=>exact n.elim
 |.region id l false,s,d,h,X,f,σ,i=>by
  obtain⟨σ0,m,d⟩:=xT (bs:=j) (NH l.toList) i;refine AWP.wk m ?_;intro C E a w j i;refine wp_region_list ?_;have:=RY g _ h X f (Q:=fJ C (Gf p k)) (λE τ a w v i f h=>⟨E,τ,.panic p,i,⟨v,rfl,f⟩,rfl,h⟩) j d i;simpa using this
 |.region _ _ true,_,_,h,_,_,_,_=>h.elim|.skip,_,_,h,_,_,_,_=>h.elim|.exit _,_,_,h,_,_,_,_=>h.elim|.ret,_,_,h,_,_,_,_=>h.elim|.loop _,_,_,h,_,_,_,_=>h.elim|.label _,_,_,h,_,_,_,_=>h.elim|.rangeFunc _ _ _ _,_,_,h,_,_,_,_=>h.elim|.goto _,_,_,h,_,_,_,_=>h.elim|.refuse _,_,_,h,_,_,_,_=>h.elim|.block _ _,_,_,h,_,_,_,_=>h.elim|.scope _,_,_,h,_,_,_,_=>h.elim|.cond _ _ _,_,_,h,_,_,_,_=>h.elim
def Hf{X:Env1}(i:X.T=ev.T){j:Tr V}{co:List (Nat×Ob)}{σ:St}(f:∀t,IA σ.slots t=(match j.get t with|some v=>v|none=>.undef))(k:(jA co).Nodup)(l:∀p∈co,zA σ.objs p.1=some p.2):∀{g:List ResultVar}{d:List V},RM ev.T ⟨j,KB co .nil,0,[]⟩ g=some d->IH X σ g=some d
 |[],d,h=>h|r::g,d,h=>by
  simp only[RM]at h;split at h
  ·rename_i x A b s;have u:=Hf (X:=X) i f k l s;have w:GH X σ r=some x:=by
    cases r with
    |tmp t=>rw[<-b];simp only[QM,GH,f];rfl|cell a t=>
     simp only[QM]at b;simp only[GH,i,f];split at b
     ·rename_i B n off y z;rw[y,z];split at b
      ·rename_i m c;have c:zA co n=some (.box m):=by
        rw[KO co _ k]at c
        cases e:zA co n with|some o=>rw[e]at c;exact c|none=>rw[e]at c;cases c
       simp only[l (n,.box m) (tJ c)];exact b
      cases b
     cases b
   rw[<-h];simp only[IH,w,u]
  cases h
def nr(k:kG ev P){N n f rd rg u l i:Nat}{args:List PV}{m o:Oper}{co:Array Operand}{b:List V}{c a:List (Nat×Ob)}{v:Di}{p x:PV}(h:Df ev P N n f rd rg u args m o co b l i c a v p x)(D:qU ev P f m o co b l i)
  (w:iQ P ev.gl i b c p a) (y:jA a=jA c) (z:lC a=jA a) (r:(jA a).Nodup):AC P ev.gl f (args.map .pv) [] (.ret (.pv x)) []:=by
 refine Ff k h D ?_;intro fn M s A X B C h σ E Y F G j;refine AWP.mono (WY (OH k N n) _ _ _ h X B σ E) ?_
 rintro O τ ⟨rfl,Q,ro,H,I,J⟩
 obtain⟨K,L⟩:=TY H;obtain⟨t,d⟩:=HB L;rw[fG]at t;refine⟨c,a,by rw[F,j];exact w,VM λq g=>(I q.1 (HY t q.1 (keysO_mem.2 ⟨_,g⟩))).trans (K q g),y,z,?_,trivial⟩
 unfold kN at d;unfold qG;split at d
 ·rename_i R e;rw[Hf (X:=Y) G (σ:=τ.eff none (MC .undef c a)) J r (λq g=>?_) e,<-d];rfl;show zA (aF τ.objs (WG c a)) q.1=_;rw[bI,Ye r g]
 exact d.elim
end
end Go.Lg
