/- The engine that computes runs; no conditions. -/
import Derived.Test.YtbbbnbikmbaejaaGreatDoorConB2
set_option linter.all false
namespace Go.Lg
def zCq (o:Oper):Bool:=match o.op with
 | .lookup _ _ _ _=>true
 | _=>false
def lkT (ev:qZx) (o:Oper) (s:IS):Option (Prop × Bool × Nat × PV × PV):=match o.guard with
 | some _=>none
 | none=>match o.dst with
  | none=>none
  | some d=>match o.op with
   | .lookup t m k true=>match ev.T t with
    | some ⟨.map _ vt,_,_,_,_⟩=>match ev.T vt,s.val ev.gl m,s.val ev.gl k with
     | some tv,.map n,.pv (.ptr ks)=>match s.ob.get n,qVm tv with
      | some (.cache D F),some z=>some (D (.ptr ks),ks.any PV.nonint,d,.tuple [F (.ptr ks),.bool true],.tuple [z,.bool false])
      | _,_=>none
     | _,_,_=>none
    | _=>none
   | _=>none
def zVt (ev:qZx) (P:Program) (call:qZ2) (nt bs:Nat) (all:List Oper):List Oper→IS→Di→(IS→Di→Prop)→Prop
 | [],s,tp,k=>k s tp
 | o::r,s,tp,k=>match zCq o with
  | true=>match lkT ev o s with
   | some (c,ni,d,x,y)=>c∧gd ni (gd (Nat.blt d nt) (zVt ev P call nt bs all r ⟨qYy s.sl (some d) (.pv x),s.ob,s.nx,s.dt⟩ tp k∧zVt ev P call nt bs all r ⟨qYy s.sl (some d) (.pv y),s.ob,s.nx,s.dt⟩ tp k))
   | none=>False
  | false=>opT ev P call nt bs all o s tp fun s1 _ tp=>zVt ev P call nt bs all r s1 tp k
def zD7 (o:Oper):Bool:=match o.op with
 | .mapUpdate _ _ _ _=>true
 | _=>false
def upT (ev:qZx) (o:Oper) (s:IS):Option (Prop × Bool × Nat × Ob):=match o.guard with
 | some _=>none
 | none=>match o.dst with
  | some _=>none
  | none=>match o.op with
   | .mapUpdate t m k v=>match ev.T t with
    | some ⟨.map _ _,_,_,_,_⟩=>match s.val ev.gl m,s.val ev.gl k,s.val ev.gl v with
     | .map n,.pv (.ptr ks),.pv cs=>match s.ob.get n with
      | some (.cache D F)=>some (D (.ptr ks)∧cs=F (.ptr ks),ks.any PV.nonint,n,.cache D F)
      | _=>none
     | _,_,_=>none
    | _=>none
   | _=>none
def zWw (ev:qZx) (P:Program) (call:qZ2) (nt bs:Nat) (all:List Oper):List Oper→IS→List Tc→Di→(IS→List Tc→Di→Prop)→Prop
 | [],s,tr,tp,k=>k s tr tp
 | o::r,s,tr,tp,k=>match zD7 o with
  | true=>match upT ev o s with
   | some (c,ni,n,q)=>c∧gd ni (zWw ev P call nt bs all r (s.app bs none ⟨.undef,some (n,q),false⟩) (⟨[n],rdN (s.val ev.gl) o.op⟩::tr) tp k)
   | none=>False
  | false=>opT ev P call nt bs all o s tp fun s1 tc tp=>zWw ev P call nt bs all r s1 (tc::tr) tp k
def qPn (ev:qZx) (P:Program) (call:qZ2) (N nt bs:Nat):Code→IS→Di→KT→Prop
 | .seq a b,s,tp,k=>qPn ev P call N nt bs a s tp (onT (fun s tp=>qPn ev P call N nt bs b s tp k) k)
 | .region id ops d,s,tp,k=>match d,ops.toList.any zCq with
  | false,true=>zVt ev P call nt bs ops.toList ops.toList (zQ9 bs (qXv ops.toList) s) tp fun s tp=>k .normal s tp
  | true,_=>zWw ev P call nt bs ops.toList ops.toList (zQ9 bs (qXv ops.toList) s) [] tp fun s1 tr tp=>gd (qRl ops.toList) (match qEg tr with
    | true=>k .normal s1 tp
    | false=>gd (qLa ops.toList tr.reverse) (k .normal s1 tp))
  | _,_=>qDk ev P call N nt bs (.region id ops d) s tp k
 | .cond c x y,s,tp,k=>match s.val ev.gl c with
  | .pv (.bool b)=>match b with
   | true=>qPn ev P call N nt bs x s tp k
   | false=>qPn ev P call N nt bs y s tp k
  | _=>False
 | .scope b,s,tp,k=>qPn ev P call N nt bs b s tp k
 | c,s,tp,k=>qLd ev P call N nt bs c s tp k
def zAn (ev:qZx) (P:Program) (N n f:Nat) (args:List V) (objs:List (Nat × Ob)) (m:Nat) (tp:Di) (ko:Kp) (x:PV) (ch:List (Nat × Ob)):Prop:=match ev.F f with
 | some fn=>match fn.body with
  | some c=>gd (Nat.ble args.length fn.ntmps) (gd (qNl (qJw objs)) (gd (qNl (qJw ch)) (match reach m (obL objs .nil) 1000000 (qQg args) .nil [] with
   | some (sub,ks)=>gd (zVs (qJw objs) ks) (qPn ev P (qAp ev P N n) N fn.ntmps m c ⟨qZh 0 args .nil,sub,m,[]⟩ tp fun e s _ =>
    gd (qTr ko m s) (qLs s.ob ko.on (zQ8 ev.T m sub fn.results.toList e (kpT ko s)=some ⟨.pv x,ch,[],ko.nx⟩)))
   | none=>False)))
  | none=>False
 | none=>False
section
variable {ev:qZx} {P:Program}
theorem Rel.slotK {s:IS} {σ:St} (h:Rel s σ) (d:Nat) (x:V):Rel ⟨qYy s.sl (some d) x,s.ob,s.nx,s.dt⟩ ⟨(d,x)::σ.slots,σ.objs,σ.used⟩:=by
 refine⟨fun t => ?_,h.ob,h.us⟩
 show (if d=t then x else qZi σ.slots t)=_
 show _=match (s.sl.put d (some x)).get t with|some v=>v|none=>V.undef
 rw [Tr.get_put]
 by_cases e:t=d
 ·simp_all
 ·rw [if_neg e,if_neg (fun h=>e h.symm)];exact h.sl t
theorem zWx {o:Oper} {s:IS} {c:Prop} {ni:Bool} {d:Nat} {x y:PV} (h:lkT ev o s=some (c,ni,d,x,y)) (hc:c) (hn:ni=true) {X:Env1} (hX:X.T=ev.T) (hgl:X.gl=ev.gl) {σ:St} (hR:Rel s σ) {Qp:PV→St→Prop} {nx:Eff→Prop}
  (h1:nx ⟨.pv x,[],[],[]⟩) (h2:nx ⟨.pv y,[],[],[]⟩):o.guard=none∧o.dst=some d∧qHc X false Qp o σ nx:=by
 unfold lkT at h
 split at h
 ·cases h
 rename_i hg
 split at h
 ·cases h
 rename_i d' hd
 split at h
 ·rename_i t m k ho
  split at h
  ·rename_i kt vt s1 s2 s3 s4 et
   split at h
   ·rename_i tv n ks ev' em ek
    split at h
    ·rename_i D F z eo ez
     cases h
     refine⟨hg,hd,?_⟩
     unfold qHc
     rw [qAm (by rw [ho])]
     have em':σ.val X.gl m = .map n:=by rw [hR.val,hgl];exact em
     have ek':σ.val X.gl k = .pv (.ptr ks):=by rw [hR.val,hgl];exact ek
     have eo':qQc σ.objs n=some (.cache D F):=by rw [hR.ob];exact eo
     rw [← hX] at et ev'
     simp only [zQl,ho,zQm,et,ev',em',ek',eo',ez]
     refine⟨trivial,trivial,hn,.inl ⟨hc,fun b => ?_⟩⟩
     cases b
     ·exact h2
     ·exact h1
    ·cases h
   ·cases h
  ·cases h
 ·cases h
theorem qCv {call:qZ2} (hc:qZ3 ev P call) {nt bs:Nat} {all:List Oper} {k:IS→Di→Prop} : ∀ (l:List Oper) {s:IS} {tp:Di},zVt ev P call nt bs all l s tp k →
  (∃ s' tp',(∀ sub,Inv bs sub s→Inv bs sub s')∧k s' tp') ∧
  ∀ X,HX X ev P nt bs→∀ {C:Ctx} {Q:Exit→Act→World→Prop},(∀ E τ a w s' tp',Ga C E τ a w→Rel s' τ→(∀ sub,Inv bs sub s→Inv bs sub s')→k s' tp'→Q .normal a w) →
  ∀ {E:Env} {σ:St} {a:Act} {w:World},COK X C→Rel s σ→Ga C E σ a w→wpList X.P all.toArray Q l a w
 | [],s,tp,h=>⟨⟨s,tp,fun _ h=>h,h⟩,fun X hX C Q hq E σ a w hC hR hG=>hq E σ a w s tp hG hR (fun _ h=>h) h⟩
 | o::r,s,tp,h=>by
  unfold zVt at h
  split at h
  ·split at h
   ·rename_i c ni d x y hl
    obtain⟨hcc,h⟩:=h
    obtain⟨hni,h⟩:=qZs h
    obtain⟨hd,hx,hy⟩:=qZs h
    obtain⟨⟨s1,tp1,hi1,hk1⟩,hx⟩:=qCv hc r hx
    obtain⟨_,hy⟩:=qCv hc r hy
    refine⟨⟨s1,tp1,fun sub hI=>hi1 sub (hI.slot _),hk1⟩,fun X hX C Q hq E σ a w hC hR hG => ?_⟩
    have go:∀ (v:PV),(∀ {E:Env} {σ:St} {a:Act} {w:World},COK X C→Rel ⟨qYy s.sl (some d) (.pv v),s.ob,s.nx,s.dt⟩ σ→Ga C E σ a w→wpList X.P all.toArray Q r a w)→∀ E' a' w',Ga C E' (σ.eff (some d) ⟨.pv v,[],[],[]⟩) a' w'→wpList X.P all.toArray Q r a' w' :=
     fun v hv E' a' w' hG'=>hv hC (hR.slotK d (.pv v)) hG'
    have hx':=go x (fun hC hR hG=>hx X hX (fun E τ a w s' tp' hG hR hi hk=>hq E τ a w s' tp' hG hR (fun sub hI=>hi sub (hI.slot _)) hk) hC hR hG)
    have hy':=go y (fun hC hR hG=>hy X hX (fun E τ a w s' tp' hG hR hi hk=>hq E τ a w s' tp' hG hR (fun sub hI=>hi sub (hI.slot _)) hk) hC hR hG)
    obtain⟨hg,hdst,hst⟩:=zWx hl hcc hni hX.T hX.gl hR (Qp:=fun _ _=>False) (nx:=fun e => ∀ E' a' w',Ga C E' (σ.eff (some d) e) a' w'→wpList X.P all.toArray Q r a' w') hx' hy'
    unfold wpList
    rw [if_pos (by simp [Region.wanted,hg])]
    refine .inl (qD3 X.ok hC.glob hG (fun d' e => ?_) (fun e E' a' w' hn hG' => ?_) (fun _ _ _ _ _ _ _ h=>h.elim) hst)
    ·rw [hdst] at e
     cases e
     rw [hC.nt,hX.nt]
     exact qJi hd
    ·rw [hdst] at hG'
     exact hn E' a' w' hG'
   ·exact h.elim
  ·obtain⟨s1,tc,tp1,h1,h2⟩:=qNs hc h
   obtain⟨⟨s2,tp2,hi2,hk2⟩,h5⟩:=qCv hc r h2
   refine⟨⟨s2,tp2,fun sub hI=>hi2 sub (h1.inv sub hI),hk2⟩,fun X hX C Q hq E σ a w hC hR hG => ?_⟩
   obtain⟨e,h3,h4,_⟩:=h1.ok X hX.P hX.T hX.gl hX.nt σ hR
   exact qEm X.ok hC.glob hC.nt h3 hG fun E' a' w' hG'=>h5 X hX (fun E τ a w s' tp' hG hR hi hk=>hq E τ a w s' tp' hG hR (fun sub hI=>hi sub (h1.inv sub hI)) hk) hC h4 hG'
theorem zWy {o:Oper} {s:IS} {c:Prop} {ni:Bool} {n:Nat} {q:Ob} {nt bs:Nat} {all:List Oper} (h:upT ev o s=some (c,ni,n,q)) (hc:c) (hn:ni=true):qHz ev P nt bs all o s (s.app bs none ⟨.undef,some (n,q),false⟩) ⟨[n],rdN (s.val ev.gl) o.op⟩:=by
 unfold upT at h
 split at h
 ·cases h
 rename_i hg
 split at h
 ·cases h
 rename_i hd
 split at h
 ·rename_i t m k v ho
  split at h
  ·rename_i kt vt s1 s2 s3 s4 et
   split at h
   ·rename_i n ks cs em ek evv
    split at h
    ·rename_i D F eo
     cases h
     obtain⟨h1,h2⟩:=hc
     have hG:qHj (qQb ev.T .none (s.val ev.gl) s.ob.get o.dst o.op) ⟨.undef,some (n,.cache D F),false⟩:=by
      rw [ho,hd]
      exact⟨⟨D (.ptr ks)∧cs=F (.ptr ks)∧ks.any PV.nonint=true,True,.undef,some (n,.cache D F),false⟩,by simp only [qQb,et,em,ek,evv,qZ8,eo],⟨h1,h2,hn⟩,rfl,rfl,rfl⟩
     refine⟨fun sub hI => ?_,fun X hP hT hgl hnt σ hR => ?_⟩
     ·refine⟨hI.le,fun m hm hd => ?_,fun m hm hs => ?_,hI.names,fun m hm => ?_⟩
      ·show (s.ob.put n (some _)).get m=_
       have hne:m≠n:=by grind [qY4,IS.app]
       rw [Tr.get_put,if_neg hne]
       exact hI.same m hm (fun hm'=>hd (qY3 hm'))
      ·have hs:((s.ob.put n (some _)).get m).isSome=true:=hs
       rw [Tr.get_put] at hs
       by_cases e:m=n
       ·subst e;exact hI.old m hm (by rw [eo];rfl)
       ·rw [if_neg e] at hs;exact hI.old m hm hs
      ·have hm:m∈qRi bs n s.dt:=hm
       rcases qCn hm with ⟨rfl,h1⟩|h1
       ·exact h1
       ·exact hI.dts m h1
     ·obtain⟨e,h3,h4,h5⟩:=qNh (bs:=bs) hG (nofun) hT hgl hR
      rw [hd] at h4
      exact⟨e,⟨by unfold qP2;rw [hd];trivial,.inl ⟨hg,h3⟩⟩,by rw [hd];exact h4,h5⟩
    ·cases h
   ·cases h
  ·cases h
 ·cases h
theorem qGn {call:qZ2} (hc:qZ3 ev P call) {nt bs:Nat} {all:List Oper} : ∀ (l:List Oper) {s:IS} {tr:List Tc} {tp:Di} {k:IS→List Tc→Di→Prop},zWw ev P call nt bs all l s tr tp k→∃ s1 tr1 tp',OpsR ev P nt bs all l s tr s1 tr1∧k s1 tr1 tp'
 | [],s,tr,tp,k,h=>⟨s,tr,tp,.nil s tr,h⟩
 | o::l,s,tr,tp,k,h=>by
  unfold zWw at h
  split at h
  ·split at h
   ·rename_i c ni n q hu
    obtain⟨hcc,h⟩:=h
    obtain⟨hni,h⟩:=qZs h
    obtain⟨s2,tr2,tp2,h4,h5⟩:=qGn hc l h
    exact⟨s2,tr2,tp2,.cons (zWy hu hcc hni) h4,h5⟩
   ·exact h.elim
  ·obtain⟨s1,tc,tp',h1,h3⟩:=qNs hc h
   obtain⟨s2,tr2,tp2,h4,h5⟩:=qGn hc l h3
   exact⟨s2,tr2,tp2,.cons h1 h4,h5⟩
theorem zZx {call:qZ2} (hc:qZ3 ev P call) {N nt bs:Nat} : ∀ (c:Code) (s:IS) (tp:Di) (k:KT),qPn ev P call N nt bs c s tp k→Reach2 ev P nt bs c s k:=by
 have base:∀ (c:Code) (s:IS) (tp:Di) (k:KT),qDk ev P call N nt bs c s tp k→Reach2 ev P nt bs c s k:=fun c s tp k h=>by
  obtain⟨e,s1,tp1,h1,h2⟩:=qQx hc c s tp k h
  exact .of h1 h2
 intro c
 induction c with
 | seq a b iha ihb =>
  intro s tp k h
  have ha:=iha s tp _ h
  have hb:∀ s1 tp1,qPn ev P call N nt bs b s1 tp1 k→Reach2 ev P nt bs b s1 k:=fun s1 tp1 h1=>ihb s1 tp1 k h1
  refine⟨?_,fun X hX σ hR=>AWP.seq (AWP.mono (ha.awp X hX σ hR) ?_)⟩
  ·obtain⟨e,s1,tp1,hi,h1⟩:=ha.syn
   cases e with
   | normal =>
    obtain⟨e,s2,tp2,hi2,h2⟩:=(hb s1 tp1 h1).syn
    grind
   | exit i=>exact⟨.exit i,s1,tp1,hi,h1⟩
   | ret=>exact⟨.ret,s1,tp1,hi,h1⟩
  ·rintro ae σ' ⟨e,s1,tp1,rfl,hR',hi,h1⟩
   cases e with
   | normal =>
    refine AWP.mono ((hb s1 tp1 h1).awp X hX σ' hR') ?_
    grind
   | exit i=>exact⟨.exit i,s1,tp1,rfl,hR',hi,h1⟩
   | ret=>exact⟨.ret,s1,tp1,rfl,hR',hi,h1⟩
 | region id ops d =>
  intro s tp k h
  unfold qPn at h
  split at h
  ·obtain⟨⟨s1,tp1,hi,hk⟩,h2⟩:=qCv hc _ h
   refine⟨⟨.normal,s1,tp1,fun sub hI=>hi sub (qX5 (qXv ops.toList) hI),hk⟩,fun X hX σ hR => ?_⟩
   obtain⟨σ0,hw,hR0⟩:=qCq (bs:=bs) (qXv ops.toList) hR
   refine AWP.wk hw fun C E a w hC hG=>wp_region_list ?_
   exact h2 X hX (Q:=qF5 C _) (fun E τ a w s' tp' hG hR hi hk=>⟨E,τ,.normal,hG,rfl,.normal,s',tp',rfl,hR,fun sub hI=>hi sub (qX5 (qXv ops.toList) hI),hk⟩) hC hR0 hG
  ·obtain⟨s1,tr,tp',h1,h2⟩:=qGn hc _ h
   have hinv:∀ sub,Inv bs sub s→Inv bs sub s1:=fun sub hI=>h1.inv (qX5 (qXv ops.toList) hI)
   obtain⟨hs,h2⟩:=qZs h2
   have hq:(qEg tr=true∨qLa ops.toList tr.reverse=true)∧k .normal s1 tp':=by
    grind [qZs]
   refine Reach2.of (s':=s1) (e:=.normal) ⟨hinv,fun X hX σ hR => ?_⟩ hq.2
   obtain⟨σ0,hw,hR0⟩:=qCq (bs:=bs) (qXv ops.toList) hR
   obtain⟨es,tcs,h3,h4,h5,h6,h7⟩:=h1.ok hX.P hX.T hX.gl hX.nt hR0
   refine AWP.wk hw (AWP.anyR h3 h4 (qHu hs ?_ h3 h7) ⟨rfl,h5⟩)
   simp_all
  ·exact base _ s tp k h
 | cond c x y ihx ihy =>
  intro s tp k h
  unfold qPn at h
  split at h
  ·rename_i b hb
   have hv:∀ X,HX X ev P nt bs→∀ σ,Rel s σ→σ.val X.gl c = .pv (.bool b):=fun X hX σ hR=>by rw [hR.val,hX.gl];exact hb
   split at h
   ·have hx:=ihx s tp k h
    exact⟨hx.syn,fun X hX σ hR=>AWP.condT (hv X hX σ hR) (fun _=>hx.awp X hX σ hR) (nofun)⟩
   ·have hy:=ihy s tp k h
    exact⟨hy.syn,fun X hX σ hR=>AWP.condT (hv X hX σ hR) (nofun) (fun _=>hy.awp X hX σ hR)⟩
  ·exact h.elim
 | scope b ih =>
  intro s tp k h
  have hb:=ih s tp k h
  exact⟨hb.syn,fun X hX σ hR=>AWP.scopeT (hb.awp X hX σ hR)⟩
 | _=>exact fun s tp k h=>qJx hc _ s tp k h
theorem qN3 {ev:qZx} {P:Program} {f m nx:Nat} {args:List V} {objs ch:List (Nat × Ob)} {ks:List Nat} {y:V} {ro o1:List (Nat × Ob)} (hd:qNl (qJw objs)=true) (hk:zVs (qJw objs) ks=true) (hn:qNl (qJw ch)=true)
  (hC:Called P ev.gl ⟨.nil,obL objs .nil,m,[]⟩ f args ⟨y,ch,[],nx⟩ ks ro o1):AC P ev.gl f args objs (.ret y) (qTu ch objs):=by
 have hd:=qGj hd
 rw [qJr] at hd
 have hk:=qCr hk
 rw [qJr] at hk
 have hs0:∀ k,(obL objs .nil).get k=qQc objs k:=fun k=>by
  rw [qCt objs _ hd]
  cases qQc objs k<;>rfl
 have hsub:∀ p∈ro++o1,qQc objs p.1=some p.2:=fun p hp=>by rw [← hs0];exact hC.subs p hp
 have hget:∀ k,qQc (ro++o1) k=qQc objs k:=by
  intro k
  cases e:qQc (ro++o1) k with
  | some o=>exact (hsub (k,o) (qWe e)).symm
  | none =>
   cases e2:qQc objs k with
   | none=>rfl
   | some o =>
    have h1:=hC.all k (hk k (getO_iff.2 (by rw [e2];rfl)))
    rw [getO_iff,e] at h1
    cases h1
 refine AC.cong hC.ac hget (fun k => ?_) (fun k hk => ?_)
 ·rw [qCu,← hget,List.append_nil,qKk,qKk]
  cases e:qQc ro k with
  | some o =>
   have h1:=(hC.apart k (getO_iff.2 (by rw [e];rfl))).2
   have h2:qQc ch k=none:=by
    cases e2:qQc ch k with
    | none=>rfl
    | some o=>exact absurd (by simpa using getO_iff.2 (by rw [e2];rfl)) h1
   grind [qKj]
  | none =>
   cases e2:qQc o1 k with
   | some o =>
    have h1:=hC.inch k (getO_iff.2 (by rw [e2];rfl))
    obtain⟨o',ho'⟩:=Option.isSome_iff_exists.1 (getO_iff.1 h1)
    grind [qKj]
   | none =>
    cases e3:qQc ch k with
    | none=>rfl
    | some o =>
     have h1:=(hC.chs k (getO_iff.2 (by rw [e3];rfl))).2.2
     rw [getO_iff,e2] at h1
     cases h1
 ·obtain⟨p,hp,hkp⟩:=mem_mentO.1 hk
  exact mem_mentO.2 ⟨p,qWe (hsub p hp),hkp⟩
theorem zZy (he:qPk ev P) {N n f:Nat} {args:List V} {objs:List (Nat × Ob)} {m:Nat} {tp:Di} {ko:Kp} {x:PV} {ch:List (Nat × Ob)} (h:zAn ev P N n f args objs m tp ko x ch):AC P ev.gl f args objs (.ret (.pv x)) (qTu ch objs):=by
 unfold zAn at h
 split at h
 ·rename_i fn hf
  split at h
  ·rename_i c hb
   obtain⟨hl,h⟩:=qZs h
   obtain⟨hn1,h⟩:=qZs h
   obtain⟨hn2,h⟩:=qZs h
   split at h
   ·rename_i sub ks hrc
    obtain⟨hks,h⟩:=qZs h
    let s0:IS:=⟨qZh 0 args .nil,sub,m,[]⟩
    let K:=zQ8 ev.T m sub fn.results.toList
    let r:Res:=⟨.pv x,ch,[],ko.nx⟩
    have hR:=zZx (qJs he N n) (nt:=fn.ntmps) (bs:=m) c s0 tp _ h
    have hend:∀ e s1,gd (qTr ko m s1) (qLs s1.ob ko.on (K e (kpT ko s1)=some r))→KpOK ko m s1∧K e (kpT ko s1)=some r:=by
     grind [qZs,qVg,qK2]
    have hg:zX8 ev P (qPm fn.ntmps m c s0 K r):=by
     refine⟨fun nt1 bs1 c1 s1 k r1 hr sub hI => ?_,fun nt1 bs1 c1 s1 k r1 hr X hP hXT hgl hnt hgv sub σ hRel hI => ?_⟩
     ·unfold qPm at hr
      split at hr
      ·rename_i hh
       obtain⟨rfl,rfl,rfl,rfl,rfl⟩:=hh
       cases hr
       obtain⟨e,s2,tp2,hi,h2⟩:=hR.syn
       obtain⟨h3,h4⟩:=hend e s2 h2
       exact⟨e,_,h3.inv (hi sub hI),h4⟩
      ·cases hr
     ·unfold qPm at hr
      split at hr
      ·rename_i hh
       obtain⟨rfl,rfl,rfl,rfl,rfl⟩:=hh
       cases hr
       have hX:HX X ev P fn.ntmps bs1:=⟨hP,hXT,hgl,hnt,hgv⟩
       refine AWP.postX (hR.awp X hX σ hRel) ?_
       rintro ae σ' ⟨e,s2,tp2,rfl,hR2,hi,h2⟩
       obtain⟨h3,h4⟩:=hend e s2 h2
       obtain⟨τ,h5,h6⟩:=h3.wk hX hR2
       exact⟨⟨τ,h5,e,_,rfl,h6,h3.inv (hi sub hI),h4⟩,AE.x_np e⟩
      ·cases hr
    have hrun:qBc ev (qPm fn.ntmps m c s0 K r) fn c args m sub=some r:=by
     unfold qBc qPm
     grind
    obtain⟨ro,o1,hC⟩:=qCm (s:=⟨.nil,obL objs .nil,m,[]⟩) hg he hf hb (by simp_all) hrc hrun
    exact qN3 hn1 hks hn2 hC
   ·exact h.elim
  ·exact h.elim
 ·exact h.elim
theorem AC.more {gl:Nat→Option (List PV)} {f:Nat} {args:List V} {b:Ob} {D D':PV→Prop} {F F':PV→PV} {out:Out} {objs':List (Nat × Ob)} (hm:∀ p,D p→D' p∧F p=F' p) (hc:Coh D' F')
  (h:AC P gl f args [(0,b),(1,.cache D' F')] out objs'):AC P gl f args [(0,b),(1,.cache D F)] out objs':=by
 have hk:∀ n,(∃ o,qQc [(0,b),(1,Ob.cache D F)] n=some o) ↔ ∃ o,qQc [(0,b),(1,Ob.cache D' F')] n=some o:=fun n=>by
  simp only [qQc]
  split<;>(try split)<;>simp
 have hn:∀ n,qQc [(0,b),(1,Ob.cache D F)] n=none↔qQc [(0,b),(1,Ob.cache D' F')] n=none:=fun n=>by
  simp only [qQc]
  split<;>(try split)<;>simp
 have ho:∀ E w n o,(∀ n o,qQc [(0,b),(1,Ob.cache D F)] n=some o→ObOK E w n o)→qQc [(0,b),(1,Ob.cache D' F')] n=some o→ObOK E w n o:=fun E w n o hB h=>by
  have hB:=hB n
  simp only [qQc] at h hB
  split at h
  ·rename_i e
   rw [if_pos e] at hB
   exact hB o h
  ·rename_i e
   rw [if_neg e] at hB
   split at h
   ·rename_i e'
    rw [if_pos e'] at hB
    cases h
    obtain⟨_,b,es,ck,h1,h2,h3,h4⟩:=hB _ rfl
    refine⟨hc,b,es,ck,h1,h2,h3,fun e he => ?_⟩
    obtain⟨p,hp,hk,hv,hx⟩:=h4 e he
    obtain⟨hp',hf⟩:=hm p hp
    exact⟨p,hp',hk,by rw [← hf];exact hv,hx⟩
   ·cases h
 refine⟨h.direct,h.names,h.namesO,fun E w vs hB hl hR => ?_⟩
 have hB':qMe gl E w [(0,b),(1,.cache D' F')]:=⟨hB.heap,hB.glob,fun n o hn=>ho E w n o hB.obs hn,fun n m o o' hn hm=>by
  obtain⟨q,hq⟩:=(hk n).2 ⟨o,hn⟩
  obtain⟨q',hq'⟩:=(hk m).2 ⟨o',hm⟩
  exact hB.apart n m q q' hq hq'⟩
 refine (h.calls E w vs hB' hl hR).mono ?_
 rintro e w' ⟨E',hD,hout⟩
 refine⟨E',⟨hD.heap,hD.obs,hD.apart,hD.hle,hD.size,hD.rest,fun b hb hne=>hD.same b hb fun n o hn => ?_,fun n o b' hn hb => ?_,fun n o hn => ?_,fun n h1 h2=>hD.other n ((hn n).1 h1) h2⟩,hout⟩
 ·obtain⟨q,hq⟩:=(hk n).2 ⟨o,hn⟩
  exact hne n q hq
 ·rcases hD.own n o b' hn hb with h|⟨m,o',h1,h2⟩
  ·exact .inl h
  ·obtain⟨q,hq⟩:=(hk m).2 ⟨o',h1⟩
   exact .inr ⟨m,q,hq,h2⟩
 ·obtain⟨q,hq⟩:=(hk n).1 ⟨o,hn⟩
  exact hD.ext n q hq
end
end Go.Lg
