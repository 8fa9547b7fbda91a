/- Contracts of functions; no conditions. -/
import Derived.Test.YtnkoaepelgbhfaaGreatDoorPC6
import Derived.Test.YtnkoaepelgbhfaaGreatDoorPC4
set_option linter.all false
set_option maxHeartbeats 4000000
namespace Go.Proofs.YtnkoaepelgbhfaaGreatDoor
open Go.Lg
set_option maxRecDepth 100000
def Fm.both:Fm->Bool
 | .bin _ x y=>x.has && y.has
 | _=>false
def TL (f:Fm) (t:Tm):Tm:=match f with
 | .q _ u (.q _ w x)=>bif x.has then .n2 .app (.lam (.two true u (.two false w x.cty)) (QP u)) t else t
 | _=>t
def Fm.qs:Fm->Ty
 | .q _ s _=>s
 | _ => .unit
def Sc.hy (s:Sc) (i:Nat):Tm:=match s.ks[s.ks.length-1-i]? with
 | some (.hy t d _)=>t.sh 0 (.ofNat (s.dep-d))
 | _ => .n0 .unit
def Jt.xt (tl:List Tm):Jt->Sc->Tm
 | .leaf u i _,s=>match u with
  | false=>s.hy i
  | true=>match tl[i]? with
   | some t=>t
   | none => .n0 .unit
 | .refl _,_ => .n0 .unit
 | .p1 k a _,s=>match k with
  | .andL=>bif a.f.both then .n1 .fst (a.xt tl s) else a.xt tl s
  | .andR=>bif a.f.both then .n1 .snd (a.xt tl s) else a.xt tl s
  | .choice=>TL a.f (a.xt tl s)
 | .p2 k a b _,s=>match k with
  | .andI=>bif a.f.has then (bif b.f.has then .n2 .pair (a.xt tl s) (b.xt tl s) else a.xt tl s) else b.xt tl s
  | .impE=>bif b.f.has then .n2 .app (a.xt tl s) (b.xt tl s) else a.xt tl s
  | .exE=>bif a.f.bd.has then .n2 .app (.lam (.two false a.f.qs a.f.bd.cty) (b.xt tl ((s.bind.var (.n1 .fst (.v 0))).hyp (.n1 .snd (.v 0))))) (a.xt tl s) else .n2 .app (.lam a.f.qs (b.xt tl (s.bind.var (.v 0)).bare)) (a.xt tl s)
  | .exUE=>bif a.f.bd.has then .n2 .app (.lam a.f.bd.cty (b.xt tl ((s.bind.var a.f.qs.ini).hyp (.v 0)))) (a.xt tl s) else b.xt tl (s.var a.f.qs.ini).bare
 | .impI x a,s=>bif x.has then .lam x.cty (a.xt tl (s.bind.hyp (.v 0))) else a.xt tl s.bare
 | .all u t a,s=>match u with
  | false => .lam t (a.xt tl (s.bind.var (.v 0)))
  | true=>a.xt tl (s.var t.ini)
 | .ins u t a _,s=>match u with
  | false => .n2 .app (a.xt tl s) (t.ps s.vs s.dep 0)
  | true=>a.xt tl s
 | .ex u _ t a,s=>match u with
  | false=>bif a.f.has then .n2 .pair (t.ps s.vs s.dep 0) (a.xt tl s) else t.ps s.vs s.dep 0
  | true=>a.xt tl s
 | .ind l x t a b _,s=>match l with
  | false => .n3 .re x.cty (a.xt tl s) (.lam .nat (.lam x.cty (b.xt tl ((s.bind.var (.v 0)).bind.hyp (.v 0))))) (t.ps s.vs s.dep 0)
  | true => .n3 .fo x.cty (a.xt tl s) (.lam .nat (.lam .list (.lam x.cty (b.xt tl (((s.bind.var (.v 0)).bind.var (.v 0)).bind.hyp (.v 0)))))) (t.ps s.vs s.dep 0)
 | .subst _ _ b _,s=>b.xt tl s
abbrev BT (tl:List Tm) (hs:List Fm) (j:Jt) (s:Sc):Prop:=∃ r:XR,A 94 [vB tl,j.ptr hs,s.p] r.p/\r.Gd s.dep (j.xt tl s)
theorem gX {n:Nat} {bs:List Bool} {s:Sc} {t:Tm} (hS:ScOK n bs s) (ht:TK n t):(XR.fit (t.ps s.vs s.dep 0)).Gd s.dep (t.ps s.vs s.dep 0):=by
 have hc:t.sc (s.vs.length+0):=by rw [hS.vl];exact ht.sc
 exact QL (aK hS.ve t 0 ht.shp) (cK hS.ve t 0 hc) rfl
theorem UL {a b:Tm} {c:Bool} (h:c=true):(bif c then a else b)=a:=by rw [h];rfl
theorem eN {a b:Tm} {c:Bool} (h:c=false):(bif c then a else b)=b:=by rw [h];rfl
theorem Tm.c_len (t:Tm):t.c.length=5:=rfl
theorem Vq (f:Fm):1<=f.cnt:=by cases f<;>simp [Fm.cnt]<;>omega
theorem WB {ls:List Fm} {tl:List Tm} (HT:∀ (i:Nat) (f:Fm),ls[i]? = some f->∃ t,tl[i]? = some t/\TK 0 t):∀ (j:Jt) (n:Nat) (hs:List Fm) (s:Sc),j.OK ls n hs->j.f.has=true->ScOK n (hs.map Fm.has) s->n+j.p.cnt<=90000->hs.length+j.p.cnt<=qA->s.dep+j.p.cnt<=90000->s.hyps+j.p.cnt<=qA->BT tl hs j s
 | .leaf u i f,n,hs,s,h,hf,hS,hn,hl,hd,hh=>by
  have hm:=zA;have hb:=kA;have hlm:DA=100000:=rfl;simp only [Jt.p,Pf.cnt] at hn hl hd hh;obtain⟨h0,h⟩:=h;replace hf:f.has=true:=hf;cases u
  ·obtain⟨h1,h2⟩:=h;have hk:(hs.map Fm.has)[hs.length-1-i]? = some true:=by rw [List.getElem?_map,h2];exact congrArg some hf
   obtain⟨t,d,p,e⟩:=hS.kh _ hk;obtain⟨q1,q2⟩:=hS.ke _ (List.mem_of_getElem? e) t d p rfl;have g1:=uB (a:=(hs.map Fm.c).length) (by simp;omega) (by simp;omega);have g2:aA (Int.ofNat ((hs.map Fm.c).length-1) - .ofNat i)=true/\Int.ofNat ((hs.map Fm.c).length-1) - .ofNat i = .ofNat (hs.length-1-i):=by
    have e:Int.ofNat ((hs.map Fm.c).length-1) - .ofNat i = .ofNat (hs.length-1-i):=by simp;omega
    exact⟨by rw [e];exact rA (by omega),e⟩
   have g3:=Vp s _ t d p e q1 (by omega) q2;have q3:=q2.sh (s.dep-d);have ed:d+(s.dep-d)=s.dep:=by omega
   rw [ed] at q3;have ex:s.hy i=t.sh 0 (.ofNat (s.dep-d)):=by
    unfold Sc.hy;rw [show s.ks.length=hs.length by have:=hS.kl;simpa using this,e]
   refine⟨.ok (t.sh 0 (.ofNat (s.dep-d))),f3 [(38,.z ((hs.map Fm.c).length-1)),(44,.z (hs.length-1-i)),(45,.U [(t.sh 0 (.ofNat (s.dep-d))).p,.bool true])] g1 g2 g3,q3,ex.symm⟩
  ·obtain⟨t,e,q⟩:=HT i f h;exact⟨.ok t,f1 [(58,.i t.c)] (kB e Tm.c_len),Sp q (Nat.zero_le _),by show t=(match tl[i]? with|some t=>t|none => .n0 .unit);rw [e]⟩
 | .refl t,n,hs,s,h,hf,hS,hn,hl,hd,hh=>by
  have hf:false=true:=hf;cases hf
 | .p1 k a f,n,hs,s,⟨h0,h1,h2⟩,hf,hS,hn,hl,hd,hh=>by
  have hm:=zA;have hlm:DA=100000:=rfl;simp only [Jt.p,Pf.cnt] at hn hl hd hh;replace hf:f.has=true:=hf;have FA:=Jt.FKj h1;cases k
  ·obtain⟨y,e⟩:=h2;have ha:a.f.has=true:=by rw [e];show (f.has || y.has)=true;rw [hf];rfl
   obtain⟨r,g1,q1⟩:=WB HT a n hs s h1 ha hS (by omega) (by omega) (by omega) (by omega);rw [e] at FA;obtain⟨t0,g2,_⟩:=MI FA.bin1 (by omega);obtain⟨t1,g3,_⟩:=MI FA.bin2 (by omega);rw [hf] at g2;cases hy:y.has<;>rw [hy] at g3
   ·have g:=wq (tl:=tl) (hs:=hs) (s:=s) (a:=a) (f:=f) (y:=y) (ra:=r) (by rw [<- e];exact g1) g2 g3 q1.cn;rw [<- e] at g;have ex:(Jt.p1 .andL a f).xt tl s=a.xt tl s:=eN (by rw [e];show (f.has && y.has)=false;rw [hf,hy];rfl);rw [BT,ex];exact⟨_,g,q1⟩
   ·have g:=vq (tl:=tl) (hs:=hs) (s:=s) (a:=a) (f:=f) (y:=y) (ra:=r) (by rw [<- e];exact g1) g2 g3 q1.cn;rw [<- e] at g;have ex:(Jt.p1 .andL a f).xt tl s = .n1 .fst (a.xt tl s):=UL (by rw [e];show (f.has && y.has)=true;rw [hf,hy];rfl);rw [BT,ex];exact⟨_,g,ue q1⟩
  ·obtain⟨y,e⟩:=h2;have ha:a.f.has=true:=by rw [e];show (y.has || f.has)=true;rw [hf];cases y.has<;>rfl
   obtain⟨r,g1,q1⟩:=WB HT a n hs s h1 ha hS (by omega) (by omega) (by omega) (by omega);rw [e] at FA;obtain⟨t0,g2,_⟩:=MI FA.bin1 (by omega);obtain⟨t1,g3,_⟩:=MI FA.bin2 (by omega);rw [hf] at g3;cases hy:y.has<;>rw [hy] at g2
   ·have g:=yq (tl:=tl) (hs:=hs) (s:=s) (a:=a) (f:=f) (y:=y) (ra:=r) (by rw [<- e];exact g1) g2 g3 q1.cn;rw [<- e] at g;have ex:(Jt.p1 .andR a f).xt tl s=a.xt tl s:=eN (by rw [e];show (y.has && f.has)=false;rw [hf,hy];rfl);rw [BT,ex];exact⟨_,g,q1⟩
   ·have g:=kq (tl:=tl) (hs:=hs) (s:=s) (a:=a) (f:=f) (y:=y) (ra:=r) (by rw [<- e];exact g1) g2 g3 q1.cn;rw [<- e] at g;have ex:(Jt.p1 .andR a f).xt tl s = .n1 .snd (a.xt tl s):=UL (by rw [e];show (y.has && f.has)=true;rw [hf,hy];rfl);rw [BT,ex];exact⟨_,g,ue q1⟩
  ·obtain⟨u,w,x,e,y,e1,e2⟩:=h2;have ha:a.f.has=true:=by rw [e];rfl
   obtain⟨r,g1,q1⟩:=WB HT a n hs s h1 ha hS (by omega) (by omega) (by omega) (by omega);rw [e] at FA;have sw:=EF (HA FA.qf.shp).1;have su:=EF (HA FA.shp).1;obtain⟨T,g2,z2,ze,zt⟩:=MI FA.qf.qf (by omega);have ex:(Jt.p1 .choice a f).xt tl s=bif x.has then .n2 .app (.lam (.two true u (.two false w x.cty)) (QP u)) (a.xt tl s) else a.xt tl s:=by show TL a.f _=_;rw [e];rfl
   rw [BT,ex]
   cases r with
   | er q m =>
    have g:=Pq (tl:=tl) (hs:=hs) (s:=s) (a:=a) (f:=f) (u:=u) (w:=w) (x:=x) (q:=q) (n:=m) (by rw [<- e];exact g1);rw [<- e] at g;exact⟨_,g,by first|exact ze _ rfl|exact PL ‹_› | exact q1⟩
   | ok t =>
    have q2:=q1
    cases T with
    | er m =>
     have g:=Qq (tl:=tl) (hs:=hs) (s:=s) (a:=a) (f:=f) (u:=u) (w:=w) (x:=x) (t:=t) (by rw [<- e];exact g1) g2;rw [<- e] at g;exact⟨_,g,by first|exact ze _ rfl|exact PL ‹_› | exact q1⟩
    | ok v =>
     cases hx:x.has<;>rw [hx] at g2
     ·have g:=Rq (tl:=tl) (hs:=hs) (s:=s) (a:=a) (f:=f) (u:=u) (w:=w) (x:=x) (t:=t) (by rw [<- e];exact g1) g2;rw [<- e] at g;exact⟨_,g,q2⟩
     ·have hv:v.size<=64:=z2;have hvc:=zt v rfl hx;have g3:=we w v (by omega)
      cases e3:TR.fit (.two false w v) with
      | er m =>
       rw [e3] at g3;have g:=Sq (tl:=tl) (hs:=hs) (s:=s) (a:=a) (f:=f) (u:=u) (w:=w) (x:=x) (t:=t) (by rw [<- e];exact g1) g2 g3;rw [<- e] at g;exact⟨_,g,by first|exact ze _ rfl|exact PL ‹_› | exact q1⟩
      | ok k =>
       rw [e3] at g3;have hk:k.size<=64/\k = .two false w v:=by
        unfold TR.fit at e3;split at e3
        ·rename_i h;cases e3;exact⟨h,rfl⟩
        ·cases e3
       have g4:=Wp u k (by have:=hk.1;omega)
       cases e4:TR.fit (.two true u k) with
       | er m =>
        rw [e4] at g4;have g:=Tq (tl:=tl) (hs:=hs) (s:=s) (a:=a) (f:=f) (u:=u) (w:=w) (x:=x) (t:=t) (by rw [<- e];exact g1) g2 g3 g4;rw [<- e] at g;exact⟨_,g,by first|exact ze _ rfl|exact PL ‹_› | exact q1⟩
       | ok m =>
        rw [e4] at g4;have hm':m.size<=64/\m = .two true u k:=by
         unfold TR.fit at e4;split at e4
         ·rename_i h;cases e4;exact⟨h,rfl⟩
         ·cases e4
        have g:=Uq (tl:=tl) (hs:=hs) (s:=s) (a:=a) (f:=f) (u:=u) (w:=w) (x:=x) (t:=t) (by rw [<- e];exact g1) q1.1.cnt g2 g3 g4;rw [<- e] at g;refine⟨_,g,QL ?_ ?_ ?_⟩
        ·show (Nat.beq m.chk 0 && ((Nat.beq u.chk 0 && _) && (Nat.beq u.chk 0 && _)) && _)=true;rw [AK hm'.1,AK su,q2.1.shp];rfl
        ·refine⟨⟨⟨?_,?_⟩,?_,?_⟩,q2.1.sc⟩<;>simp only [Tm.sc]<;>omega
        ·rw [hm'.2,hk.2,hvc,q2.2];rfl
 | .p2 k a b f,n,hs,s,⟨h0,h1,h2⟩,hf,hS,hn,hl,hd,hh=>by
  have hm:=zA;have hlm:DA=100000:=rfl;simp only [Jt.p,Pf.cnt] at hn hl hd hh;have ca:=LP a.p;have cb:=LP b.p;replace hf:f.has=true:=hf;have hkl:s.ks.length=hs.length:=by have:=hS.kl;simpa using this
  have FA:=Jt.FKj h1;cases k
  ·obtain⟨h3,e⟩:=h2;subst e;have hor:a.f.has=true\/b.f.has=true:=by have:(a.f.has || b.f.has)=true:=hf;simpa using this
   cases ha:a.f.has
   ·have hbh:b.f.has=true:=by rcases hor with h|h;rw [ha] at h;cases h;exact h
    obtain⟨r,g1,q1⟩:=WB HT b n hs s h3 hbh hS (by omega) (by omega) (by omega) (by omega);exact⟨_,jq ha g1,by show r.Gd s.dep (bif a.f.has then _ else _);rw [eN ha];exact q1⟩
   ·obtain⟨r,g1,q1⟩:=WB HT a n hs s h1 ha hS (by omega) (by omega) (by omega) (by omega);cases hbh:b.f.has
    ·exact⟨_,zq ha hbh g1,by show r.Gd s.dep (bif a.f.has then (bif b.f.has then _ else _) else _);rw [UL ha,eN hbh];exact q1⟩
    ·obtain⟨r2,g2,q2⟩:=WB HT b n hs s h3 hbh hS (by omega) (by omega) (by omega) (by omega);exact⟨_,Zp ha hbh g1 g2 q1.cn q2.cn,by show XR.Gd s.dep (bif a.f.has then (bif b.f.has then _ else _) else _) _;rw [UL ha,UL hbh];exact SL q1 q2⟩
  ·obtain⟨h3,x,e⟩:=h2;have ha:a.f.has=true:=by rw [e];exact hf
   obtain⟨r,g1,q1⟩:=WB HT a n hs s h1 ha hS (by omega) (by omega) (by omega) (by omega);cases hbh:b.f.has
   ·have g:=fq (tl:=tl) (hs:=hs) (s:=s) (a:=a) (b:=b) (x:=x) (y:=b.f) (f:=f) (ra:=r) hbh (by rw [<- e];exact g1);rw [<- e] at g;exact⟨_,g,by show r.Gd s.dep (bif b.f.has then _ else _);rw [eN hbh];exact q1⟩
   ·obtain⟨r2,g2,q2⟩:=WB HT b n hs s h3 hbh hS (by omega) (by omega) (by omega) (by omega);have g:=lq (tl:=tl) (hs:=hs) (s:=s) (a:=a) (b:=b) (x:=x) (y:=b.f) (f:=f) (ra:=r) (rb:=r2) hbh (by rw [<- e];exact g1) g2 q1.cn q2.cn;rw [<- e] at g;exact⟨_,g,by show XR.Gd s.dep (bif b.f.has then _ else _) _;rw [UL hbh];exact SL q1 q2⟩
  ·obtain⟨h3,⟨u,e⟩,e1⟩:=h2;have ex:(Jt.p2 .exE a b f).xt tl s=bif a.f.bd.has then .n2 .app (.lam (.two false a.f.qs a.f.bd.cty) (b.xt tl ((s.bind.var (.n1 .fst (.v 0))).hyp (.n1 .snd (.v 0))))) (a.xt tl s) else .n2 .app (.lam a.f.qs (b.xt tl (s.bind.var (.v 0)).bare)) (a.xt tl s):=rfl;rw [BT,ex];have eu:a.f.qs=u:=by rw [e];rfl
   rw [eu];generalize hx:a.f.bd=x at *
   have ha:a.f.has=true:=by rw [e];rfl
   have hbh:b.f.has=true:=by rw [<- oB (VJ e1)];exact hf
   rw [e] at FA;have su:=EF (HA FA.shp).1;obtain⟨T,g2,z2,ze,zt⟩:=MI FA.qf (by omega);have gs:=SH s (by omega)
   cases T with
   | er m =>
    have g:=xq (tl:=tl) (hs:=hs) (s:=s) (a:=a) (b:=b) (u:=u) (x:=x) (y:=b.f) (f:=f) g2;rw [<- e,<- hx] at g;exact⟨_,g,by first|exact ze _ rfl|exact PL ‹_› | exact q1⟩
   | ok w =>
    have hw:w.size<=64:=z2;obtain⟨r,g1,q1⟩:=WB HT a n hs s h1 ha hS (by omega) (by omega) (by omega) (by omega);cases hxh:x.has<;>rw [hxh] at g2
    ·have S1:=(hS.bind.var (t:=.v 0) (KD (by show 0<s.dep+1;omega))).bare;have gv:=TH s.bind (.v 0) (by rw [hS.bind.vl];omega);have gh:=dX (s.bind.var (.v 0)) (by show s.ks.length<=qA;omega) (by show s.hyps<=qA;omega);obtain⟨r2,g3,q3⟩:=WB HT b (n+1) _ _ h3 hbh (by rw [List.map_append,GF,List.map_cons,hxh];exact S1) (by omega) (by simp;omega) (by show s.dep+1+_<=_;omega) (by show s.hyps+1+_<=_;omega);have g:=Cq (tl:=tl) (hs:=hs) (s:=s) (a:=a) (b:=b) (u:=u) (x:=x) (y:=b.f) (f:=f) g2 gs gv gh g3 q3.cn (by rw [<- e];exact g1) q1.cn;rw [<- e,<- hx] at g;exact⟨_,g,SL (VH su q3) q1⟩
    ·have gp:=we u w (by omega)
     cases e3:TR.fit (.two false u w) with
     | er m =>
      rw [e3] at gp;have g:=Aq (tl:=tl) (hs:=hs) (s:=s) (a:=a) (b:=b) (u:=u) (x:=x) (y:=b.f) (f:=f) g2 gs gp;rw [<- e,<- hx] at g;exact⟨_,g,by first|exact ze _ rfl|exact PL ‹_› | exact q1⟩
     | ok k =>
      rw [e3] at gp;unfold TR.fit at e3;split at e3;rotate_left
      ·cases e3
      rename_i hk;cases e3;have hz:TK (s.dep+1) (.v 0):=KD (by omega);have S0:=hS.bind.var (t:=.n1 .fst (.v 0)) (aN hz (by simp [Tm.cnt]));have S1:=S0.hyp (t:=.n1 .snd (.v 0)) (aN hz (by simp [Tm.cnt])) true;have gv:=TH s.bind (.n1 .fst (.v 0)) (by rw [hS.bind.vl];omega);have gh:=OP (s.bind.var (.n1 .fst (.v 0))) (.n1 .snd (.v 0)) (by show s.ks.length<=qA;omega) (by show s.hyps<=qA;omega);obtain⟨r2,g3,q3⟩:=WB HT b (n+1) _ _ h3 hbh (by rw [List.map_append,GF,List.map_cons,hxh];exact S1) (by omega) (by simp;omega) (by show s.dep+1+_<=_;omega) (by show s.hyps+1+_<=_;omega);have g:=Bq (tl:=tl) (hs:=hs) (s:=s) (a:=a) (b:=b) (u:=u) (x:=x) (y:=b.f) (f:=f) g2 gs gp gv gh g3 q3.cn (by rw [<- e];exact g1) q1.cn;rw [<- e,<- hx] at g;rw [zt w rfl hxh] at g hk;exact⟨_,g,SL (VH hk q3) q1⟩
  ·obtain⟨h3,⟨u,e⟩,e1⟩:=h2;have ex:(Jt.p2 .exUE a b f).xt tl s=bif a.f.bd.has then .n2 .app (.lam a.f.bd.cty (b.xt tl ((s.bind.var a.f.qs.ini).hyp (.v 0)))) (a.xt tl s) else b.xt tl (s.var a.f.qs.ini).bare:=rfl;rw [BT,ex];have eu:a.f.qs=u:=by rw [e];rfl
   rw [eu];generalize hx:a.f.bd=x at *
   have hbh:b.f.has=true:=by rw [<- oB (VJ e1)];exact hf
   rw [e] at FA;have su:=EF (HA FA.shp).1;obtain⟨T,g2,z2,ze,zt⟩:=MI FA.qf (by omega);have gs:=SH s (by omega)
   cases T with
   | er m =>
    have g:=Dq (tl:=tl) (hs:=hs) (s:=s) (a:=a) (b:=b) (u:=u) (x:=x) (y:=b.f) (f:=f) g2;rw [<- e,<- hx] at g;exact⟨_,g,by first|exact ze _ rfl|exact PL ‹_› | exact q1⟩
   | ok w =>
    have hw:w.size<=64:=z2;cases hxh:x.has<;>rw [hxh] at g2
    ·have S1:=(hS.var (t:=u.ini) (LI u su s.dep)).bare;have gv:=TH s u.ini (by rw [hS.vl];omega);have gh:=dX (s.var u.ini) (by show s.ks.length<=qA;omega) (by show s.hyps<=qA;omega);obtain⟨r2,g3,q3⟩:=WB HT b (n+1) _ _ h3 hbh (by rw [List.map_append,GF,List.map_cons,hxh];exact S1) (by omega) (by simp;omega) (by show s.dep+_<=_;omega) (by show s.hyps+1+_<=_;omega);have g:=Fq (tl:=tl) (hs:=hs) (s:=s) (a:=a) (b:=b) (u:=u) (x:=x) (y:=b.f) (f:=f) g2 gv gh g3;rw [<- e,<- hx] at g;exact⟨_,g,q3⟩
    ·have ha:a.f.has=true:=by rw [e];exact hxh
     obtain⟨r,g1,q1⟩:=WB HT a n hs s h1 ha hS (by omega) (by omega) (by omega) (by omega);have S0:=hS.bind.var (t:=u.ini) (LI u su _);have S1:=S0.hyp (t:=.v 0) (KD (by show 0<s.dep+1;omega)) true;have gv:=TH s.bind u.ini (by rw [hS.bind.vl];omega);have gh:=OP (s.bind.var u.ini) (.v 0) (by show s.ks.length<=qA;omega) (by show s.hyps<=qA;omega);obtain⟨r2,g3,q3⟩:=WB HT b (n+1) _ _ h3 hbh (by rw [List.map_append,GF,List.map_cons,hxh];exact S1) (by omega) (by simp;omega) (by show s.dep+1+_<=_;omega) (by show s.hyps+1+_<=_;omega);have g:=Gq (tl:=tl) (hs:=hs) (s:=s) (a:=a) (b:=b) (u:=u) (x:=x) (y:=b.f) (f:=f) g2 gs gv gh g3 q3.cn (by rw [<- e];exact g1) q1.cn;rw [<- e,<- hx] at g;rw [zt w rfl hxh] at g hw;exact⟨_,g,SL (VH hw q3) q1⟩
 | .impI x a,n,hs,s,⟨h0,h1,h2⟩,hf,hS,hn,hl,hd,hh=>by
  have hm:=zA;have hlm:DA=100000:=rfl;simp only [Jt.p,Pf.cnt] at hn hl hd hh;have hkl:s.ks.length=hs.length:=by have:=hS.kl;simpa using this
  have ha:a.f.has=true:=hf;have ex:(Jt.impI x a).xt tl s=bif x.has then .lam x.cty (a.xt tl (s.bind.hyp (.v 0))) else a.xt tl s.bare:=rfl;rw [BT,ex];obtain⟨T,g2,z2,ze,zt⟩:=MI h0 (by omega)
  cases T with
  | er m=>exact⟨_,uq g2,ze _ rfl⟩
  | ok u =>
   have hu:u.size<=64:=z2;cases hxh:x.has<;>rw [hxh] at g2
   ·have S1:=hS.bare;have gh:=dX s (by omega) (by omega);obtain⟨r2,g3,q3⟩:=WB HT a n _ _ h2 ha (by rw [List.map_append,List.map_cons,hxh];exact S1) (by omega) (by simp;omega) (by show s.dep+_<=_;omega) (by show s.hyps+1+_<=_;omega);exact⟨_,bq g2 gh g3,q3⟩
   ·have S1:=hS.bind.hyp (t:=.v 0) (KD (by show 0<s.dep+1;omega)) true;have gs:=SH s (by omega);have gh:=OP s.bind (.v 0) (by show s.ks.length<=qA;omega) (by show s.hyps<=qA;omega);obtain⟨r2,g3,q3⟩:=WB HT a n _ _ h2 ha (by rw [List.map_append,List.map_cons,hxh];exact S1) (by omega) (by simp;omega) (by show s.dep+1+_<=_;omega) (by show s.hyps+1+_<=_;omega);rw [zt u rfl hxh] at g2 hu;exact⟨_,dq g2 gs gh g3 q3.cn,VH hu q3⟩
 | .all c u a,n,hs,s,⟨h0,h1,h2⟩,hf,hS,hn,hl,hd,hh=>by
  have hm:=zA;have hlm:DA=100000:=rfl;simp only [Jt.p,Pf.cnt] at hn hl hd hh;cases c
  ·have ha:a.f.has=true:=hf;have S1:=hS.bind.var (t:=.v 0) (KD (by show 0<s.dep+1;omega));have gs:=SH s (by omega);have gv:=TH s.bind (.v 0) (by rw [hS.bind.vl];omega);obtain⟨r2,g3,q3⟩:=WB HT a (n+1) _ _ h2 ha (by rw [GF];exact S1) (by omega) (by simp;omega) (by show s.dep+1+_<=_;omega) (by show s.hyps+_<=_;omega);exact⟨_,be gs gv g3 q3.cn,VH h0 q3⟩
  ·have ha:a.f.has=true:=hf;have S1:=hS.var (t:=u.ini) (LI u h0 s.dep);have gv:=TH s u.ini (by rw [hS.vl];omega);obtain⟨r2,g3,q3⟩:=WB HT a (n+1) _ _ h2 ha (by rw [GF];exact S1) (by omega) (by simp;omega) (by show s.dep+_<=_;omega) (by show s.hyps+_<=_;omega);exact⟨_,mq gv g3,q3⟩
 | .ins c t a f,n,hs,s,⟨h0,h1,h2,u,x,e,e1⟩,hf,hS,hn,hl,hd,hh=>by
  have hm:=zA;have hlm:DA=100000:=rfl;simp only [Jt.p,Pf.cnt] at hn hl hd hh;replace hf:f.has=true:=hf;have hxh:x.has=true:=by rw [<- oB (iD e1)];exact hf
  cases c
  ·have ha:a.f.has=true:=by rw [e];exact hxh
   obtain⟨r,g1,q1⟩:=WB HT a n hs s h2 ha hS (by omega) (by omega) (by omega) (by omega);have e:a.f = .q .all u x:=e;have gp:=gT s t n hS.vl.symm hS.ve (by omega) (by rw [hS.vl];omega) h1;have qp:(XR.fit (t.ps s.vs s.dep 0)).Gd s.dep (t.ps s.vs s.dep 0):=gX hS h1;have g:=nq (tl:=tl) (hs:=hs) (s:=s) (a:=a) (w:=t) (u:=u) (x:=x) (f:=f) (by rw [<- e];exact g1) gp q1.cn qp.cn;rw [<- e] at g;exact⟨_,g,SL q1 qp⟩
  ·have ha:a.f.has=true:=by rw [e];exact hxh
   obtain⟨r,g1,q1⟩:=WB HT a n hs s h2 ha hS (by omega) (by omega) (by omega) (by omega);have e:a.f = .q .allU u x:=e;have g:=pq (tl:=tl) (hs:=hs) (s:=s) (a:=a) (w:=t) (u:=u) (x:=x) (f:=f) (by rw [<- e];exact g1);rw [<- e] at g;exact⟨_,g,q1⟩
 | .ex c x t a,n,hs,s,⟨h0,h1,h2,⟨u,e⟩,e1⟩,hf,hS,hn,hl,hd,hh=>by
  have hm:=zA;have hlm:DA=100000:=rfl;simp only [Jt.p,Pf.cnt] at hn hl hd hh;replace hf:x.has=true:=hf;cases c
  ·have gp:=gT s t n hS.vl.symm hS.ve (by omega) (by rw [hS.vl];omega) h1;have qp:(XR.fit (t.ps s.vs s.dep 0)).Gd s.dep (t.ps s.vs s.dep 0):=gX hS h1;cases ha:a.f.has
   ·exact⟨_,de ha gp,by show XR.Gd s.dep (bif a.f.has then _ else _) _;rw [eN ha];exact qp⟩
   ·obtain⟨r,g1,q1⟩:=WB HT a n hs s h2 ha hS (by omega) (by omega) (by omega) (by omega);exact⟨_,rq ha g1 gp q1.cn qp.cn,by show XR.Gd s.dep (bif a.f.has then _ else _) _;rw [UL ha];exact SL qp q1⟩
  ·have ha:a.f.has=true:=by
    rw [oB e1];rw [e] at hf;exact hf
   obtain⟨r,g1,q1⟩:=WB HT a n hs s h2 ha hS (by omega) (by omega) (by omega) (by omega);exact⟨_,sq g1,q1⟩
 | .ind l x t a b f,n,hs,s,⟨h0,h1,h2,h3,e,⟨ea,eb⟩,h4⟩,hf,hS,hn,hl,hd,hh=>by
  have hm:=zA;have hlm:DA=100000:=rfl;simp only [Jt.p,Pf.cnt] at hn hl hd hh;have ct:=TB t;have cx:=Vq x;have ca:=LP a.p;have hkl:s.ks.length=hs.length:=by have:=hS.kl;simpa using this
  replace hf:f.has=true:=hf;have hxh:x.has=true:=by rw [<- oB (iD e)];exact hf
  have ha:a.f.has=true:=by rw [oB ea];exact hxh
  have hbh:b.f.has=true:=by rw [oB eb];exact hxh
  have gp:=gT s t n hS.vl.symm hS.ve (by omega) (by rw [hS.vl];omega) h2;have qp:(XR.fit (t.ps s.vs s.dep 0)).Gd s.dep (t.ps s.vs s.dep 0):=gX hS h2;generalize XR.fit (t.ps s.vs s.dep 0)=rp at gp qp;obtain⟨T,g2,z2,ze,zt⟩:=MI h1 (by omega);obtain⟨r,g1,q1⟩:=WB HT a n hs s h3 ha hS (by omega) (by omega) (by omega) (by omega);cases l
  ·cases rp with
   | er q m=>exact⟨_,Hq gp,qp⟩
   | ok tp=>cases T with
    | er m=>exact⟨_,Iq gp g2,ze _ rfl⟩
    | ok u =>
     have hu:u.size<=64:=z2
     cases r with
     | er q m=>exact⟨_,Jq gp g2 g1,q1⟩
     | ok v =>
      have S0:=hS.bind.var (t:=.v 0) (KD (by show 0<s.dep+1;omega));have S1:=S0.bind.hyp (t:=.v 0) (KD (by show 0<s.dep+1+1;omega)) true;have gs:=SH s (by omega);have gv:=TH s.bind (.v 0) (by rw [hS.bind.vl];omega);have gs3:=SH (s.bind.var (.v 0)) (by show s.dep+1<=qA;omega);have gh:=OP (s.bind.var (.v 0)).bind (.v 0) (by show s.ks.length<=qA;omega) (by show s.hyps<=qA;omega);obtain⟨r2,g3,q3⟩:=WB HT b (n+1) _ _ h4 hbh (by rw [List.map_append,GF,List.map_cons,hxh];exact S1) (by omega) (by simp;omega) (by show s.dep+1+1+_<=_;omega) (by show s.hyps+1+_<=_;omega);have g:=Kq (tl:=tl) (hs:=hs) (s:=s) (a:=a) (b:=b) (x:=x) (y:=a.f) (z:=b.f) (f:=f) (w:=t) gp qp.1.cnt g2 g1 q1.1.cnt gs gv gs3 gh g3 q3.cn;have q4:((r2.lam u).lam .nat).Gd s.dep _:=VH (by decide) (VH hu q3);refine⟨_,g,?_⟩
      cases e5:(r2.lam u).lam .nat with
      | er q m=>rw [e5] at q4;exact q4
      | ok k =>
       rw [e5] at q4;refine QL ?_ ⟨q1.1.sc,q4.1.sc,qp.1.sc⟩ (by rw [q1.2,q4.2,qp.2,zt u rfl hxh];rfl);show (Nat.beq u.chk 0 && (_ && (_ && _)))=true;rw [AK hu,q1.1.shp,q4.1.shp,qp.1.shp];rfl
  ·cases rp with
   | er q m=>exact⟨_,Lq gp,qp⟩
   | ok tp=>cases T with
    | er m=>exact⟨_,Mq gp g2,ze _ rfl⟩
    | ok u =>
     have hu:u.size<=64:=z2
     cases r with
     | er q m=>exact⟨_,Nq gp g2 g1,q1⟩
     | ok v =>
      have S0:=hS.bind.var (t:=.v 0) (KD (by show 0<s.dep+1;omega));have S2:=S0.bind.var (t:=.v 0) (KD (by show 0<s.dep+1+1;omega));have S1:=S2.bind.hyp (t:=.v 0) (KD (by show 0<s.dep+1+1+1;omega)) true;have gs:=SH s (by omega);have gv:=TH s.bind (.v 0) (by rw [hS.bind.vl];omega);have gs2:=SH (s.bind.var (.v 0)) (by show s.dep+1<=qA;omega);have gv2:=TH (s.bind.var (.v 0)).bind (.v 0) (by rw [S0.bind.vl];omega);have gs3:=SH ((s.bind.var (.v 0)).bind.var (.v 0)) (by show s.dep+1+1<=qA;omega);have gh:=OP ((s.bind.var (.v 0)).bind.var (.v 0)).bind (.v 0) (by show s.ks.length<=qA;omega) (by show s.hyps<=qA;omega);have hxs:(x.sh 1 (.ofNat 1)).has=true:=by rw [oB (oE _ x 1)];exact hxh
      obtain⟨r2,g3,q3⟩:=WB HT b (n+2) _ _ h4 hbh (by rw [List.map_append,GF,List.map_cons,hxs];exact S1) (by omega) (by simp;omega) (by show s.dep+1+1+1+_<=_;omega) (by show s.hyps+1+_<=_;omega);have g:=Oq (tl:=tl) (hs:=hs) (s:=s) (a:=a) (b:=b) (x:=x) (y:=a.f) (z:=b.f) (f:=f) (w:=t) gp qp.1.cnt g2 g1 q1.1.cnt gs gv gs2 gv2 gs3 gh g3 q3.cn;have q4:(((r2.lam u).lam .list).lam .nat).Gd s.dep _:=VH (by decide) (VH (by decide) (VH hu q3));refine⟨_,g,?_⟩
      cases e5:((r2.lam u).lam .list).lam .nat with
      | er q m=>rw [e5] at q4;exact q4
      | ok k =>
       rw [e5] at q4;refine QL ?_ ⟨q1.1.sc,q4.1.sc,qp.1.sc⟩ (by rw [q1.2,q4.2,qp.2,zt u rfl hxh];rfl);show (Nat.beq u.chk 0 && (_ && (_ && _)))=true;rw [AK hu,q1.1.shp,q4.1.shp,qp.1.shp];rfl
 | .subst x a b f,n,hs,s,⟨h0,h1,h2,h3,eb,t,u,e,e1⟩,hf,hS,hn,hl,hd,hh=>by
  have hm:=zA;simp only [Jt.p,Pf.cnt] at hn hl hd hh;replace hf:f.has=true:=hf;have hbh:b.f.has=true:=by rw [oB eb,<- oB (iD e1)];exact hf
  obtain⟨r,g1,q1⟩:=WB HT b n hs s h3 hbh hS (by omega) (by omega) (by omega) (by omega);exact⟨_,cq g1,q1⟩
def ZC (ρ:Nat->Nat):Nat->Nat
 | 0=>0
 | n+1=>ρ n+1
def Tm.ren:(Nat->Nat)->Tm->Tm
 | ρ,.v i => .v (ρ i)
 | ρ,.lam s b => .lam s (b.ren (ZC ρ))
 | _,.n0 k => .n0 k
 | ρ,.n1 k a => .n1 k (a.ren ρ)
 | ρ,.n2 k a b => .n2 k (a.ren ρ) (b.ren ρ)
 | ρ,.n3 k s a b c => .n3 k s (a.ren ρ) (b.ren ρ) (c.ren ρ)
def mA (σ:Nat->Tm):Nat->Tm
 | 0 => .v 0
 | n+1=>(σ n).sh 0 (.ofNat 1)
def Tm.sub:(Nat->Tm)->Tm->Tm
 | σ,.v i=>σ i
 | σ,.lam s b => .lam s (b.sub (mA σ))
 | _,.n0 k => .n0 k
 | σ,.n1 k a => .n1 k (a.sub σ)
 | σ,.n2 k a b => .n2 k (a.sub σ) (b.sub σ)
 | σ,.n3 k s a b c => .n3 k s (a.sub σ) (b.sub σ) (c.sub σ)
theorem BG (k:Nat):∀ (t:Tm) (c:Nat),t.sh c (.ofNat k)=t.ren λ i=>if c<=i then i+k else i
 | .v i,c=>by simp only [Tm.sh,Tm.ren];split<;>rfl
 | .lam s b,c=>by
  simp only [Tm.sh,Tm.ren,BG k b];congr 2;funext i
  cases i with
  | zero=>rfl
  | succ i=>simp only [ZC];split<;>split<;>omega
 | .n0 _,_=>rfl
 | .n1 _ a,c=>by simp only [Tm.sh,Tm.ren,BG k a]
 | .n2 _ a b,c=>by simp only [Tm.sh,Tm.ren,BG k a,BG k b]
 | .n3 _ _ a b d,c=>by simp only [Tm.sh,Tm.ren,BG k a,BG k b,BG k d]
theorem HF (t:Tm):t.sh 0 (.ofNat 1)=t.ren (· + 1):=by
 rw [BG];congr 1
theorem LD:∀ (t:Tm) (ρ τ:Nat->Nat),(t.ren ρ).ren τ=t.ren λ i=>τ (ρ i)
 | .v i,_,_=>rfl
 | .lam s b,ρ,τ=>by
  simp only [Tm.ren,LD b];congr 2;funext i;cases i<;>rfl
 | .n0 _,_,_=>rfl
 | .n1 _ a,_,_=>by simp only [Tm.ren,LD a]
 | .n2 _ a b,_,_=>by simp only [Tm.ren,LD a,LD b]
 | .n3 _ _ a b d,_,_=>by simp only [Tm.ren,LD a,LD b,LD d]
theorem IF:∀ (t:Tm) (ρ:Nat->Nat) (σ:Nat->Tm),(t.ren ρ).sub σ=t.sub λ i=>σ (ρ i)
 | .v i,_,_=>rfl
 | .lam s b,ρ,σ=>by
  simp only [Tm.ren,Tm.sub,IF b];congr 2;funext i;cases i<;>rfl
 | .n0 _,_,_=>rfl
 | .n1 _ a,_,_=>by simp only [Tm.ren,Tm.sub,IF a]
 | .n2 _ a b,_,_=>by simp only [Tm.ren,Tm.sub,IF a,IF b]
 | .n3 _ _ a b d,_,_=>by simp only [Tm.ren,Tm.sub,IF a,IF b,IF d]
theorem dH:∀ (t:Tm) (σ:Nat->Tm) (ρ:Nat->Nat),(t.sub σ).ren ρ=t.sub λ i=>(σ i).ren ρ
 | .v i,_,_=>rfl
 | .lam s b,σ,ρ=>by
  simp only [Tm.ren,Tm.sub,dH b];congr 2;funext i
  cases i with
  | zero=>rfl
  | succ i=>simp only [mA,HF,LD];rfl
 | .n0 _,_,_=>rfl
 | .n1 _ a,_,_=>by simp only [Tm.ren,Tm.sub,dH a]
 | .n2 _ a b,_,_=>by simp only [Tm.ren,Tm.sub,dH a,dH b]
 | .n3 _ _ a b d,_,_=>by simp only [Tm.ren,Tm.sub,dH a,dH b,dH d]
theorem pT (t:Tm) (σ:Nat->Tm):(t.sh 0 (.ofNat 1)).sub (mA σ)=(t.sub σ).sh 0 (.ofNat 1):=by
 rw [HF,IF,HF,dH];congr 1;funext i;exact HF _
theorem CG:∀ (t:Tm) (σ τ:Nat->Tm),(t.sub σ).sub τ=t.sub λ i=>(σ i).sub τ
 | .v i,_,_=>rfl
 | .lam s b,σ,τ=>by
  simp only [Tm.sub,CG b];congr 2;funext i
  cases i with
  | zero=>rfl
  | succ i=>exact pT _ _
 | .n0 _,_,_=>rfl
 | .n1 _ a,_,_=>by simp only [Tm.sub,CG a]
 | .n2 _ a b,_,_=>by simp only [Tm.sub,CG a,CG b]
 | .n3 _ _ a b d,_,_=>by simp only [Tm.sub,CG a,CG b,CG d]
theorem vE:∀ (t:Tm) (σ τ:Nat->Tm),(∀ i,t.occ i≠0->σ i=τ i)->t.sub σ=t.sub τ
 | .v i,_,_,h=>h i (by simp [Tm.occ])
 | .lam s b,σ,τ,h=>by
  simp only [Tm.sub];rw [vE b (mA σ) (mA τ) λ i hi=>by
   cases i with
   | zero=>rfl
   | succ i=>simp only [mA];rw [h i hi]]
 | .n0 _,_,_,_=>rfl
 | .n1 _ a,_,_,h=>by simp only [Tm.sub];rw [vE a _ _ h]
 | .n2 _ a b,_,_,h=>by
  simp only [Tm.sub];rw [vE a _ _ λ i hi=>h i (by simp only [Tm.occ];omega),vE b _ _ λ i hi=>h i (by simp only [Tm.occ];omega)]
 | .n3 _ _ a b d,_,_,h=>by
  simp only [Tm.sub];rw [vE a _ _ λ i hi=>h i (by simp only [Tm.occ];omega),vE b _ _ λ i hi=>h i (by simp only [Tm.occ];omega),vE d _ _ λ i hi=>h i (by simp only [Tm.occ];omega)]
theorem iN:mA Tm.v=Tm.v:=by
 funext i
 cases i with
 | zero=>rfl
 | succ i=>simp [mA,Tm.sh]
theorem kE:∀ t:Tm,t.sub Tm.v=t
 | .v _=>rfl
 | .lam s b=>by simp only [Tm.sub,iN,kE b]
 | .n0 _=>rfl
 | .n1 _ a=>by simp only [Tm.sub,kE a]
 | .n2 _ a b=>by simp only [Tm.sub,kE a,kE b]
 | .n3 _ _ a b d=>by simp only [Tm.sub,kE a,kE b,kE d]
theorem RP {t:Tm} {n i:Nat} (h:t.sc n) (ho:t.occ i≠0):i<n:=by
 have:=(MH t _).1 h;rcases Nat.lt_or_ge i n with h|h
 ·exact h
 ·exact absurd (DI t i (by omega)) ho
theorem fe {t:Tm} (h:t.sc 0) (σ:Nat->Tm):t.sub σ=t:=by
 rw [vE t σ .v λ i hi=>absurd (RP h hi) (by omega),kE]
theorem SP (t:Tm) (k:Nat):(t.sh 0 (.ofNat k)).sh 0 (.ofNat 1)=t.sh 0 (.ofNat (k+1)):=by
 rw [HF,BG k t,LD,BG];congr 1
theorem DE (vs:List (Tm × Nat)) (d:Nat):∀ (t:Tm) (b:Nat),t.ps vs d b=t.sub λ i=>(Tm.v i).ps vs d b
 | .v i,_=>rfl
 | .lam s t,b=>by
  simp only [Tm.ps,Tm.sub];rw [DE vs d t (b+1)];congr 2;funext i
  cases i with
  | zero=>simp [Tm.ps,mA]
  | succ i =>
   simp only [Tm.ps,mA,Nat.add_lt_add_iff_right,Nat.add_sub_add_right];split
   ·simp [Tm.sh]
   ·split
    ·rw [SP];rfl
    ·simp [Tm.sh]
 | .n0 _,_=>rfl
 | .n1 _ a,b=>by simp only [Tm.ps,Tm.sub];rw [DE vs d a b];rfl
 | .n2 _ x y,b=>by simp only [Tm.ps,Tm.sub];rw [DE vs d x b,DE vs d y b];rfl
 | .n3 _ _ x y z,b=>by simp only [Tm.ps,Tm.sub];rw [DE vs d x b,DE vs d y b,DE vs d z b];rfl
theorem yE (c:Nat) (S:Tm):∀ (t:Tm) (d:Nat),t.put c S d=t.sub λ i=>(Tm.v i).put c S d
 | .v i,_=>rfl
 | .lam s t,d=>by
  simp only [Tm.put,Tm.sub];rw [yE c S t (d+1)];congr 2;funext i
  cases i with
  | zero =>
   simp only [Tm.put,mA];rw [if_neg (by omega),if_neg (by omega)]
  | succ i =>
   simp only [Tm.put,mA];by_cases e:i=c+d
   ·rw [if_pos (by omega),if_pos e,SP];rfl
   ·rw [if_neg (by omega),if_neg e];by_cases e':c+d<i
    ·rw [if_pos (by omega),if_pos e'];simp only [Tm.sh,Nat.zero_le,if_true];congr 1;show i=(Int.ofNat (i-1)+Int.ofNat 1).toNat;simp;omega
    ·rw [if_neg (by omega),if_neg e'];simp [Tm.sh]
 | .n0 _,_=>rfl
 | .n1 _ a,d=>by simp only [Tm.put,Tm.sub];rw [yE c S a d];rfl
 | .n2 _ x y,d=>by simp only [Tm.put,Tm.sub];rw [yE c S x d,yE c S y d];rfl
 | .n3 _ _ x y z,d=>by simp only [Tm.put,Tm.sub];rw [yE c S x d,yE c S y d,yE c S z d];rfl
open Go.Lg
theorem TP:∀ f:Fm,f.er.cty=f.cty
 | .eq _ _=>rfl
 | .bin k f g=>by cases k<;>simp only [Fm.er,Fm.cty,EL,TP f,TP g]
 | .q k _ f=>by cases k<;>simp only [Fm.er,Fm.cty,EL,TP f]
theorem oN {f g:Fm} (e:f.er=g.er):f.cty=g.cty:=(TP f).symm.trans ((congrArg Fm.cty e).trans (TP g))
def PX:(Nat->Tm)->Pf->Pf->Prop
 | _,.leaf u i,p=>p = .leaf u i
 | _,.refl _,p => ∃ t,p = .refl t
 | σ,.p1 k a,p => ∃ a',p = .p1 k a'/\PX σ a a'
 | σ,.p2 k a b,p => ∃ a' b',p = .p2 k a' b'/\PX σ a a'/\PX (match k with | .andI=>σ | .impE=>σ|_=>mA σ) b b'
 | σ,.impI x a,p => ∃ x' a',p = .impI x' a'/\x'.er=x.er/\PX σ a a'
 | σ,.all u s a,p => ∃ a',p = .all u s a'/\PX (mA σ) a a'
 | σ,.ins u t a,p => ∃ t' a',p = .ins u t' a'/\(u=false->t'=t.sub σ)/\PX σ a a'
 | σ,.ex u x t a,p => ∃ x' t' a',p = .ex u x' t' a'/\x'.er=x.er/\(u=false->t'=t.sub σ)/\PX σ a a'
 | σ,.ind l x t a b,p => ∃ x' t' a' b',p = .ind l x' t' a' b'/\x'.er=x.er/\t'=t.sub σ/\PX σ a a'/\PX (match l with|false=>mA σ|true=>mA (mA σ)) b b'
 | σ,.subst x a b,p => ∃ x' a' b',p = .subst x' a' b'/\x'.er=x.er/\PX σ a a'/\PX σ b b'
theorem Wq {hs hs':List Fm} (e:hs'.map Fm.er=hs.map Fm.er) {i:Nat} {f f':Fm} (h:hs[i]? = some f) (h':hs'[i]? = some f'):f'.er=f.er:=by
 have:=congrArg (λ l=>l[i]?) e;simp only [List.getElem?_map,h,h',Option.map_some] at this;exact Option.some.inj this
theorem Xq {hs hs':List Fm} (e:hs'.map Fm.er=hs.map Fm.er):hs'.length=hs.length:=by
 have:=congrArg List.length e;simpa using this
theorem lX {k k':FB} {a b c d:Fm} (e:(Fm.bin k a b).er=(Fm.bin k' c d).er):a.er=c.er/\b.er=d.er:=by
 simp only [Fm.er,Fm.bin.injEq] at e;exact e.2
theorem UP {k k':FQ} {s u:Ty} {a c:Fm} (e:(Fm.q k s a).er=(Fm.q k' u c).er):s=u/\a.er=c.er:=by
 simp only [Fm.er,Fm.q.injEq] at e;exact e.2
theorem rT {f g:Fm} (e:f.er=g.er):f.bd.er=g.bd.er:=by
 cases f<;>cases g<;>simp only [Fm.er,reduceCtorEq] at e<;>first|rfl|(simp only [Fm.bd,Fm.er] at *;first|exact e|(injection e))
theorem me {f g:Fm} (e:f.er=g.er):f.qs=g.qs:=by
 cases f<;>cases g<;>simp only [Fm.er,reduceCtorEq] at e<;>first|rfl|(injection e)
theorem CK {hs hs':List Fm} {x x':Fm} (k:Nat) (e:hs'.map Fm.er=hs.map Fm.er) (ex:x'.er=x.er):(gA k hs'++[x']).map Fm.er=(gA k hs++[x]).map Fm.er:=by
 rw [List.map_append,List.map_append,YM,YM,e];simp only [List.map_cons,List.map_nil,ex]
theorem JF (ls:List Fm):∀ (j j':Jt) (n n':Nat) (hs hs':List Fm) (σ:Nat->Tm),j.OK ls n hs->j'.OK ls n' hs'->hs'.map Fm.er=hs.map Fm.er->PX σ j.p j'.p->j'.f.er=j.f.er
 | .leaf u i f,j',n,n',hs,hs',σ,h,h',e,r=>by
  cases j' with
  | leaf u' i' f' =>
   obtain⟨-,h⟩:=h;obtain⟨-,h'⟩:=h';have r:Pf.leaf u' i' = .leaf u i:=r;cases r;cases u
   ·rw [Xq e] at h';exact Wq e h.2 h'.2
   ·have:some f'=some f:=by rw [<- h,<- h']
    cases this;rfl
  | _=>cases r
 | .refl t,j',n,n',hs,hs',σ,h,h',e,r=>by
  cases j' with
  | refl t'=>rfl
  | _=>obtain⟨_,r⟩:=r;cases r
 | .p1 k a f,j',n,n',hs,hs',σ,⟨_,h1,h2⟩,h',e,⟨a',r,ra⟩=>by
  cases j' with
  | p1 k' b f' =>
   obtain⟨-,h1',h2'⟩:=h';cases r;have q:=JF ls a b n n' hs hs' σ h1 h1' e ra;cases k
   ·obtain⟨y,e1⟩:=h2;obtain⟨y',e2⟩:=h2';rw [e1,e2] at q;exact (lX q).1
   ·obtain⟨y,e1⟩:=h2;obtain⟨y',e2⟩:=h2';rw [e1,e2] at q;exact (lX q).2
   ·obtain⟨s,u,x,e1,y,e3,e5⟩:=h2;obtain⟨s',u',x',e2,y',e4,e6⟩:=h2';rw [e1,e2] at q;obtain⟨es,q⟩:=UP q;obtain⟨eu,q⟩:=UP q;show f'.er=f.er;rw [e5,e6];simp only [Fm.er];rw [iD e3,iD e4,oE,oE,q,es,eu]
  | _=>cases r
 | .p2 k a b f,j',n,n',hs,hs',σ,⟨_,h1,h2⟩,h',e,⟨a',b',r,ra,rb⟩=>by
  cases j' with
  | p2 k' c d f' =>
   obtain⟨-,h1',h2'⟩:=h';cases r;have q:=JF ls a c n n' hs hs' σ h1 h1' e ra;show f'.er=f.er;cases k
   ·obtain⟨h3,e1⟩:=h2;obtain⟨h3',e2⟩:=h2';rw [e1,e2];simp only [Fm.er];rw [q,JF ls b d n n' hs hs' σ h3 h3' e rb]
   ·obtain⟨h3,x,e1⟩:=h2;obtain⟨h3',x',e2⟩:=h2';rw [e1,e2] at q;exact (lX q).2
   ·obtain⟨h3,_,e1⟩:=h2;obtain⟨h3',_,e2⟩:=h2';rw [VJ e1,VJ e2];exact JF ls b d _ _ _ _ _ h3 h3' (CK 1 e (rT q)) rb
   ·obtain⟨h3,_,e1⟩:=h2;obtain⟨h3',_,e2⟩:=h2';rw [VJ e1,VJ e2];exact JF ls b d _ _ _ _ _ h3 h3' (CK 1 e (rT q)) rb
  | _=>cases r
 | .impI x a,j',n,n',hs,hs',σ,⟨_,_,h1⟩,h',e,⟨x',a',r,rx,ra⟩=>by
  cases j' with
  | impI x2 b =>
   obtain⟨-,-,h1'⟩:=h';cases r;show Fm.bin .imp x'.er b.f.er=Fm.bin .imp x.er a.f.er;rw [rx,JF ls a b n n' _ _ σ h1 h1' (by rw [List.map_append,List.map_append,e];simp only [List.map_cons,List.map_nil,rx]) ra]
  | _=>cases r
 | .all u s a,j',n,n',hs,hs',σ,⟨_,_,h1⟩,h',e,⟨a',r,ra⟩=>by
  cases j' with
  | all u' s' b =>
   obtain⟨-,-,h1'⟩:=h';cases r;show Fm.q _ _ b.f.er=Fm.q _ _ a.f.er;rw [JF ls a b _ _ _ _ _ h1 h1' (by rw [YM,YM,e]) ra]
  | _=>cases r
 | .ins u t a f,j',n,n',hs,hs',σ,⟨_,_,h1,s,x,e1,e3⟩,h',e,⟨t',a',r,rt,ra⟩=>by
  cases j' with
  | ins u' t2 b f' =>
   obtain⟨-,-,h1',s',x',e2,e4⟩:=h';cases r;have q:=JF ls a b n n' hs hs' σ h1 h1' e ra;rw [e1,e2] at q;show f'.er=f.er;rw [iD e3,iD e4,(UP q).2]
  | _=>cases r
 | .ex u x t a,j',n,n',hs,hs',σ,h,h',e,⟨x',t',a',r,rx,_⟩=>by
  cases j' with
  | ex u' x2 t2 b=>cases r;exact rx
  | _=>cases r
 | .ind l x t a b f,j',n,n',hs,hs',σ,⟨_,_,_,_,e1,_⟩,h',e,⟨x',t',a',b',r,rx,_⟩=>by
  cases j' with
  | ind l' x2 t2 c d f' =>
   obtain⟨-,-,-,-,e2,-⟩:=h';cases r;show f'.er=f.er;rw [iD e1,iD e2,rx]
  | _=>cases r
 | .subst x a b f,j',n,n',hs,hs',σ,⟨_,_,_,_,_,_,_,_,e1⟩,h',e,⟨x',a',b',r,rx,_⟩=>by
  cases j' with
  | subst x2 c d f' =>
   obtain⟨-,-,-,-,-,_,_,-,e2⟩:=h';cases r;show f'.er=f.er;rw [iD e1,iD e2,rx]
  | _=>cases r
theorem xN {vs:List (Tm × Nat)} {d i:Nat} {e:Tm × Nat} (h:ent vs i=some e):(Tm.v i).ps vs d 0=e.1.sh 0 (.ofNat (d-e.2)):=by
 simp only [Tm.ps,Nat.not_lt_zero,if_false,Nat.sub_zero,h,Nat.add_zero]
theorem pe {vs:List (Tm × Nat)} {d:Nat} (hv:sK d vs) {t:Tm} (ht:t.sc vs.length):t.ps vs (d+1) 0=(t.ps vs d 0).sh 0 (.ofNat 1):=by
 rw [DE,DE vs d t,HF,dH];refine vE _ _ _ λ i hi => ?_
 obtain⟨e,h,hm⟩:=fT (RP ht hi);rw [xN h,xN h,<- HF,SP,show d+1-e.2=d-e.2+1 by have:=(hv e hm).1;omega]
theorem ce (vs:List (Tm × Nat)) (d:Nat) (e:Tm × Nat) {t:Tm} (ht:t.sc vs.length):(t.sh 0 (.ofNat 1)).ps (vs++[e]) d 0=t.ps vs d 0:=by
 rw [DE,HF,IF,DE vs];refine vE _ _ _ λ i hi => ?_
 obtain⟨x,h,_⟩:=fT (RP ht hi);rw [xN h,xN (e:=x) (by rw [Rp];exact h)]
structure SX (σ τ:Nat->Tm) (U:Nat->Prop) (s s':Sc):Prop where
 v:∀ v,U v->v<s.vs.length->(σ v).sc s'.vs.length/\(σ v).ps s'.vs s'.dep 0=((Tm.v v).ps s.vs s.dep 0).sub τ
 l:s'.ks.length=s.ks.length
 k:∀ i,i<s.ks.length->s'.hy i=(s.hy i).sub τ
theorem SX.mono {σ τ:Nat->Tm} {U W:Nat->Prop} {s s':Sc} (h:SX σ τ U s s') (hu:∀ v,W v->U v):SX σ τ W s s':=⟨λ v hv=>h.v v (hu v hv),h.l,h.k⟩
theorem oe {n:Nat} {bs:List Bool} {s:Sc} (h:ScOK n bs s) (i:Nat):s.bind.hy i=(s.hy i).sh 0 (.ofNat 1):=by
 unfold Sc.hy;show (match s.ks[s.ks.length-1-i]? with|some (.hy t d _)=>t.sh 0 (.ofNat (s.dep+1-d))|_ => .n0 .unit)=_
 cases e:s.ks[s.ks.length-1-i]? with
 | none=>rfl
 | some x=>cases x with
  | bare p=>rfl
  | hy t d p =>
   have:=(h.ke _ (List.mem_of_getElem? e) t d p rfl).1;simp only;rw [SP,show s.dep+1-d=s.dep-d+1 by omega]
theorem SX.bind {σ τ:Nat->Tm} {U:Nat->Prop} {s s':Sc} {n n':Nat} {bs bs':List Bool} (h:SX σ τ U s s') (h1:ScOK n bs s) (h2:ScOK n' bs' s'):SX σ (mA τ) U s.bind s'.bind :=
 ⟨λ v hv hl=>by
  obtain⟨c,e⟩:=h.v v hv hl;refine⟨c,?_⟩;show (σ v).ps s'.vs (s'.dep+1) 0=((Tm.v v).ps s.vs (s.dep+1) 0).sub (mA τ);rw [pe h2.ve c,e,pe h1.ve (show (Tm.v v).sc s.vs.length from hl),pT],h.l,λ i hi=>by rw [oe h1,oe h2,h.k i hi,pT]⟩
theorem xe (vs:List (Tm × Nat)) (d:Nat) (t:Tm):(Tm.v 0).ps (vs++[(t,d)]) d 0=t:=by
 rw [xN (Pp vs (t,d))];show t.sh 0 (.ofNat (d-d))=t;rw [Nat.sub_self,ZE]
theorem SX.var {σ τ:Nat->Tm} {U W:Nat->Prop} {s s':Sc} {t t':Tm} (h:SX σ τ U s s') (ht:t'=t.sub τ) (hu:∀ v,W (v+1)->U v):SX (mA σ) τ W (s.var t) (s'.var t') :=
 ⟨λ v hv hl=>by
  have el:(s'.var t').vs.length=s'.vs.length+1:=by simp [Sc.var]
  cases v with
  | zero =>
   refine⟨by rw [el];exact Nat.succ_pos _,?_⟩;show (Tm.v 0).ps (s'.vs++[(t',s'.dep)]) s'.dep 0=((Tm.v 0).ps (s.vs++[(t,s.dep)]) s.dep 0).sub τ;rw [xe,xe,ht]
  | succ v =>
   have hl:v<s.vs.length:=by simp [Sc.var] at hl;omega
   obtain⟨c,e⟩:=h.v v (hu v hv) hl;refine⟨by rw [el];exact FF 1 _ 0 _ c,?_⟩;show ((σ v).sh 0 (.ofNat 1)).ps (s'.vs++[(t',s'.dep)]) s'.dep 0=((Tm.v (v+1)).ps (s.vs++[(t,s.dep)]) s.dep 0).sub τ;rw [ce _ _ _ c,e,<- ce s.vs s.dep (t,s.dep) (show (Tm.v v).sc s.vs.length from hl)];simp [Tm.sh],h.l,h.k⟩
theorem tT (s:Sc) (x:Hy) (d h:Nat) (i:Nat) (hi:i<s.ks.length):(⟨s.dep,h,s.vs,s.ks++[x]⟩:Sc).hy (i+1)=s.hy i:=by
 unfold Sc.hy;simp only [List.length_append,List.length_cons,List.length_nil];rw [show s.ks.length+(0+1)-1-(i+1)=s.ks.length-1-i by omega,List.getElem?_append_left (by omega)]
theorem aT (s:Sc) (x:Hy) (h:Nat):(⟨s.dep,h,s.vs,s.ks++[x]⟩:Sc).hy 0=match x with | .hy t d _=>t.sh 0 (.ofNat (s.dep-d))|_ => .n0 .unit:=by
 unfold Sc.hy;simp only [List.length_append,List.length_cons,List.length_nil];rw [show s.ks.length+(0+1)-1-0=s.ks.length by omega,List.getElem?_append_right (Nat.le_refl _),Nat.sub_self];cases x<;>rfl
theorem SX.hyp {σ τ:Nat->Tm} {U:Nat->Prop} {s s':Sc} {t t':Tm} (h:SX σ τ U s s') (ht:t'=t.sub τ):SX σ τ U (s.hyp t) (s'.hyp t') :=
 ⟨h.v,by simp [Sc.hyp,h.l],λ i hi=>by
  cases i with
  | zero =>
   rw [Sc.hyp,Sc.hyp,aT,aT];simp only [Nat.sub_self,ZE];exact ht
  | succ i =>
   have hi:i<s.ks.length:=by simp [Sc.hyp] at hi;omega
   rw [Sc.hyp,Sc.hyp,tT s _ 0 _ i hi,tT s' _ 0 _ i (by rw [h.l];exact hi)];exact h.k i hi⟩
theorem SX.bare {σ τ:Nat->Tm} {U:Nat->Prop} {s s':Sc} (h:SX σ τ U s s'):SX σ τ U s.bare s'.bare :=
 ⟨h.v,by simp [Sc.bare,h.l],λ i hi=>by
  cases i with
  | zero=>rw [Sc.bare,Sc.bare,aT,aT];rfl
  | succ i =>
   have hi:i<s.ks.length:=by simp [Sc.bare] at hi;omega
   rw [Sc.bare,Sc.bare,tT s _ 0 _ i hi,tT s' _ 0 _ i (by rw [h.l];exact hi)];exact h.k i hi⟩
theorem SX.tm {σ τ:Nat->Tm} {U:Nat->Prop} {s s':Sc} {n:Nat} {t:Tm} (h:SX σ τ U s s') (hn:s.vs.length=n) (ht:t.sc n) (hu:∀ v,t.occ v≠0->U v):(t.sub σ).ps s'.vs s'.dep 0=(t.ps s.vs s.dep 0).sub τ:=by
 rw [DE,CG,DE s.vs,CG];refine vE _ _ _ λ i hi => ?_
 rw [<- (h.v i (hu i hi) (by rw [hn];exact RP ht hi)).2,<- DE]
theorem Ae {f g:Fm} (e:f.er=g.er):f.both=g.both:=by
 cases f<;>cases g<;>simp only [Fm.er,reduceCtorEq] at e<;>first|rfl|(simp only [Fm.bin.injEq] at e;simp only [Fm.both,oB e.2.1,oB e.2.2])
theorem Yq {f g:Fm} (e:f.er=g.er) (τ:Nat->Tm) (t:Tm):TL f (t.sub τ)=(TL g t).sub τ:=by
 cases f with
 | q k s f=>cases g with
  | q k' s' g =>
   obtain⟨es,e⟩:=UP e
   cases f with
   | q l u f=>cases g with
    | q l' u' g =>
     obtain⟨eu,e⟩:=UP e;simp only [TL,oB e,oN e,es,eu];cases g.has
     ·rfl
     ·rfl
    | _=>cases e
   | _=>cases g with
    | q l' u' g=>cases e
    | _=>rfl
  | _=>cases e
 | _=>cases g with
  | q k' s' g=>cases e
  | _=>rfl
open Go.Lg
theorem DG (hs:List Fm) (x:Fm) (k:Nat):(gA k hs++[x]).map Fm.has=hs.map Fm.has++[x.has]:=by
 rw [List.map_append,GF];rfl
theorem mX (t:Ty) (τ:Nat->Tm):t.ini=t.ini.sub τ:=(fe (PP t 0) τ).symm
theorem sC {ls:List Fm} {tl:List Tm} (ht:∀ (i:Nat) (t:Tm),tl[i]? = some t->t.sc 0):∀ (j j':Jt) (n n':Nat) (hs hs':List Fm) (σ τ:Nat->Tm) (s s':Sc),j.OK ls n hs->j'.OK ls n' hs'->hs'.map Fm.er=hs.map Fm.er->PX σ j.p j'.p->ScOK n (hs.map Fm.has) s->ScOK n' (hs.map Fm.has) s'->SX σ τ j.us s s'->j.f.has=true->j'.xt tl s'=(j.xt tl s).sub τ
 | .leaf u i f,j',n,n',hs,hs',σ,τ,s,s',h,h',e,r,S,S',R,hf=>by
  cases j' with
  | leaf u' i' f' =>
   have r:Pf.leaf u' i' = .leaf u i:=r;cases r;cases u
   ·refine R.k i ?_;rw [S.kl,List.length_map];exact h.2.1
   ·show (match tl[i]? with|some t=>t|none => .n0 .unit)=Tm.sub τ (match tl[i]? with|some t=>t|none => .n0 .unit)
    cases e1:tl[i]? with
    | none=>rfl
    | some t=>exact (fe (ht _ _ e1) τ).symm
  | _=>cases r
 | .refl t,j',n,n',hs,hs',σ,τ,s,s',h,h',e,r,S,S',R,hf=>by cases hf
 | .p1 k a f,j',n,n',hs,hs',σ,τ,s,s',⟨g0,g1,g2⟩,h',e,⟨a',r,ra⟩,S,S',R,hf=>by
  cases j' with
  | p1 k' b f' =>
   obtain⟨-,h1',h2'⟩:=h';cases r;replace hf:f.has=true:=hf;have q:=JF ls a b n n' hs hs' σ g1 h1' e ra;have Ra:SX σ τ a.us s s':=R.mono λ v hv=>⟨hf,hv⟩
   cases k
   ·obtain⟨y,e1⟩:=g2;have ha:a.f.has=true:=by rw [e1];show (f.has || y.has)=true;rw [hf];rfl
    have ih:=sC ht a b n n' hs hs' σ τ s s' g1 h1' e ra S S' Ra ha;show (bif b.f.both then Tm.n1 .fst (b.xt tl s') else b.xt tl s')=(bif a.f.both then Tm.n1 .fst (a.xt tl s) else a.xt tl s).sub τ;rw [Ae q,ih];cases a.f.both<;>rfl
   ·obtain⟨y,e1⟩:=g2;have ha:a.f.has=true:=by rw [e1];show (y.has || f.has)=true;rw [hf];cases y.has<;>rfl
    have ih:=sC ht a b n n' hs hs' σ τ s s' g1 h1' e ra S S' Ra ha;show (bif b.f.both then Tm.n1 .snd (b.xt tl s') else b.xt tl s')=(bif a.f.both then Tm.n1 .snd (a.xt tl s) else a.xt tl s).sub τ;rw [Ae q,ih];cases a.f.both<;>rfl
   ·obtain⟨u,w,x,e1,_⟩:=g2;have ha:a.f.has=true:=by rw [e1];rfl
    have ih:=sC ht a b n n' hs hs' σ τ s s' g1 h1' e ra S S' Ra ha;show TL b.f (b.xt tl s')=(TL a.f (a.xt tl s)).sub τ;rw [ih,Yq q]
  | _=>cases r
 | .p2 k a b f,j',n,n',hs,hs',σ,τ,s,s',⟨g0,g1,g2⟩,h',e,⟨a',b',r,ra,rb⟩,S,S',R,hf=>by
  cases j' with
  | p2 k' c d f' =>
   obtain⟨-,h1',h2'⟩:=h';cases r;replace hf:f.has=true:=hf;have q:=JF ls a c n n' hs hs' σ g1 h1' e ra;have Ra:SX σ τ a.us s s':=R.mono λ v hv=>⟨hf,.inl hv⟩
   cases k
   ·obtain⟨g3,e1⟩:=g2;obtain⟨h3',e2⟩:=h2';have Rb:SX σ τ b.us s s':=R.mono λ v hv=>⟨hf,.inr hv⟩
    have q2:=JF ls b d n n' hs hs' σ g3 h3' e rb;show (bif c.f.has then (bif d.f.has then Tm.n2 .pair (c.xt tl s') (d.xt tl s') else c.xt tl s') else d.xt tl s')=(bif a.f.has then (bif b.f.has then Tm.n2 .pair (a.xt tl s) (b.xt tl s) else a.xt tl s) else b.xt tl s).sub τ;rw [oB q,oB q2];have hor:(a.f.has || b.f.has)=true:=by rw [e1] at hf;exact hf
    have iha:=λ ha=>sC ht a c n n' hs hs' σ τ s s' g1 h1' e ra S S' Ra ha
    have ihb:=λ hb=>sC ht b d n n' hs hs' σ τ s s' g3 h3' e rb S S' Rb hb
    cases ha:a.f.has<;>cases hb:b.f.has
    ·rw [ha,hb] at hor;cases hor
    ·exact ihb hb
    ·exact iha ha
    ·show Tm.n2 .pair _ _=_;rw [iha ha,ihb hb];rfl
   ·obtain⟨g3,x,e1⟩:=g2;obtain⟨h3',x',e2⟩:=h2';have Rb:SX σ τ b.us s s':=R.mono λ v hv=>⟨hf,.inr hv⟩
    have q2:=JF ls b d n n' hs hs' σ g3 h3' e rb;have ha:a.f.has=true:=by rw [e1];exact hf
    have iha:=sC ht a c n n' hs hs' σ τ s s' g1 h1' e ra S S' Ra ha;show (bif d.f.has then Tm.n2 .app (c.xt tl s') (d.xt tl s') else c.xt tl s')=(bif b.f.has then Tm.n2 .app (a.xt tl s) (b.xt tl s) else a.xt tl s).sub τ;rw [oB q2,iha];cases hb:b.f.has
    ·rfl
    ·show Tm.n2 .app _ _=_;rw [sC ht b d n n' hs hs' σ τ s s' g3 h3' e rb S S' Rb hb];rfl
   ·obtain⟨g3,⟨u,e1⟩,e3⟩:=g2;obtain⟨h3',⟨u',e2⟩,e4⟩:=h2';have hbh:b.f.has=true:=by rw [<- oB (VJ e3)];exact hf
    have hu:∀ v,b.us (v+1)->Jt.us (.p2 .exE a b f) v:=λ v hv=>⟨hf,.inr hv⟩
    have ha:a.f.has=true:=by rw [e1];rfl
    have iha:=sC ht a c n n' hs hs' σ τ s s' g1 h1' e ra S S' Ra ha;have eb:=rT q;show (bif c.f.bd.has then Tm.n2 .app (.lam (.two false c.f.qs c.f.bd.cty) (d.xt tl ((s'.bind.var (.n1 .fst (.v 0))).hyp (.n1 .snd (.v 0))))) (c.xt tl s') else Tm.n2 .app (.lam c.f.qs (d.xt tl (s'.bind.var (.v 0)).bare)) (c.xt tl s'))=(bif a.f.bd.has then Tm.n2 .app (.lam (.two false a.f.qs a.f.bd.cty) (b.xt tl ((s.bind.var (.n1 .fst (.v 0))).hyp (.n1 .snd (.v 0))))) (a.xt tl s) else Tm.n2 .app (.lam a.f.qs (b.xt tl (s.bind.var (.v 0)).bare)) (a.xt tl s)).sub τ;rw [me q,oB eb,oN eb,iha];have RB:=R.bind S S';have z:∀ {m:Nat},TK (m+1) (.v 0):=KD (by omega);cases hx:a.f.bd.has
    ·have ihb:=sC ht b d (n+1) (n'+1) _ _ (mA σ) (mA τ) _ _ g3 h3' (CK 1 e eb) rb (by rw [DG,hx];exact (S.bind.var (t:=.v 0) z).bare) (by rw [DG,hx];exact (S'.bind.var (t:=.v 0) z).bare) (RB.var (t:=.v 0) (t':=.v 0) rfl hu).bare hbh;show Tm.n2 .app (.lam _ _) _=_;rw [ihb];rfl
    ·have ihb:=sC ht b d (n+1) (n'+1) _ _ (mA σ) (mA τ) _ _ g3 h3' (CK 1 e eb) rb (by rw [DG,hx];exact (S.bind.var (t:=.n1 .fst (.v 0)) (aN z (by simp [Tm.cnt]))).hyp (t:=.n1 .snd (.v 0)) (aN z (by simp [Tm.cnt])) true) (by rw [DG,hx];exact (S'.bind.var (t:=.n1 .fst (.v 0)) (aN z (by simp [Tm.cnt]))).hyp (t:=.n1 .snd (.v 0)) (aN z (by simp [Tm.cnt])) true) ((RB.var (t:=.n1 .fst (.v 0)) (t':=.n1 .fst (.v 0)) rfl hu).hyp (t:=.n1 .snd (.v 0)) (t':=.n1 .snd (.v 0)) rfl) hbh;show Tm.n2 .app (.lam _ _) _=_;rw [ihb];rfl
   ·obtain⟨g3,⟨u,e1⟩,e3⟩:=g2;obtain⟨h3',⟨u',e2⟩,e4⟩:=h2';have hbh:b.f.has=true:=by rw [<- oB (VJ e3)];exact hf
    have hu:∀ v,b.us (v+1)->Jt.us (.p2 .exUE a b f) v:=λ v hv=>⟨hf,.inr hv⟩
    have eb:=rT q;have hs64:a.f.qs.size<=64:=by
     have:=(Jt.FKj g1);rw [e1] at this ⊢;exact EF (HA this.shp).1
    show (bif c.f.bd.has then Tm.n2 .app (.lam c.f.bd.cty (d.xt tl ((s'.bind.var c.f.qs.ini).hyp (.v 0)))) (c.xt tl s') else d.xt tl (s'.var c.f.qs.ini).bare)=(bif a.f.bd.has then Tm.n2 .app (.lam a.f.bd.cty (b.xt tl ((s.bind.var a.f.qs.ini).hyp (.v 0)))) (a.xt tl s) else b.xt tl (s.var a.f.qs.ini).bare).sub τ;rw [me q,oB eb,oN eb];have z:∀ {m:Nat},TK (m+1) (.v 0):=KD (by omega);cases hx:a.f.bd.has
    ·exact sC ht b d (n+1) (n'+1) _ _ (mA σ) τ _ _ g3 h3' (CK 1 e eb) rb (by rw [DG,hx];exact (S.var (t:=a.f.qs.ini) (LI _ hs64 _)).bare) (by rw [DG,hx];exact (S'.var (t:=a.f.qs.ini) (LI _ hs64 _)).bare) (R.var (mX _ _) hu).bare hbh
    ·have ha:a.f.has=true:=by rw [e1] at hx ⊢;exact hx
     have iha:=sC ht a c n n' hs hs' σ τ s s' g1 h1' e ra S S' Ra ha;have ihb:=sC ht b d (n+1) (n'+1) _ _ (mA σ) (mA τ) _ _ g3 h3' (CK 1 e eb) rb (by rw [DG,hx];exact (S.bind.var (t:=a.f.qs.ini) (LI _ hs64 _)).hyp (t:=.v 0) z true) (by rw [DG,hx];exact (S'.bind.var (t:=a.f.qs.ini) (LI _ hs64 _)).hyp (t:=.v 0) z true) (((R.bind S S').var (mX _ _) hu).hyp (t:=.v 0) (t':=.v 0) rfl) hbh;show Tm.n2 .app (.lam _ _) _=_;rw [ihb,iha];rfl
  | _=>cases r
 | .impI x a,j',n,n',hs,hs',σ,τ,s,s',⟨_,_,g1⟩,h',e,⟨x',a',r,rx,ra⟩,S,S',R,hf=>by
  cases j' with
  | impI x2 b =>
   obtain⟨-,-,h1'⟩:=h';cases r;have ha:a.f.has=true:=hf;have Ra:SX σ τ a.us s s':=R.mono λ v hv=>⟨hf,hv⟩
   have ee:(hs'++[x']).map Fm.er=(hs++[x]).map Fm.er:=by rw [List.map_append,List.map_append,e];simp only [List.map_cons,List.map_nil,rx]
   have ex:(hs++[x]).map Fm.has=hs.map Fm.has++[x.has]:=by rw [List.map_append];rfl
   have z:∀ {m:Nat},TK (m+1) (.v 0):=KD (by omega);show (bif x'.has then Tm.lam x'.cty (b.xt tl (s'.bind.hyp (.v 0))) else b.xt tl s'.bare)=(bif x.has then Tm.lam x.cty (a.xt tl (s.bind.hyp (.v 0))) else a.xt tl s.bare).sub τ;rw [oB rx,oN rx];cases hx:x.has
   ·exact sC ht a b n n' _ _ σ τ _ _ g1 h1' ee ra (by rw [ex,hx];exact S.bare) (by rw [ex,hx];exact S'.bare) Ra.bare ha
   ·have ih:=sC ht a b n n' _ _ σ (mA τ) _ _ g1 h1' ee ra (by rw [ex,hx];exact S.bind.hyp (t:=.v 0) z true) (by rw [ex,hx];exact S'.bind.hyp (t:=.v 0) z true) ((Ra.bind S S').hyp (t:=.v 0) (t':=.v 0) rfl) ha;show Tm.lam _ _=_;rw [ih];rfl
  | _=>cases r
 | .all u w a,j',n,n',hs,hs',σ,τ,s,s',⟨g0,_,g1⟩,h',e,⟨a',r,ra⟩,S,S',R,hf=>by
  cases j' with
  | all u' w' b =>
   obtain⟨-,-,h1'⟩:=h';cases r;have ee:(gA 1 hs').map Fm.er=(gA 1 hs).map Fm.er:=by rw [YM,YM,e]
   cases u
   ·have ha:a.f.has=true:=hf;have hu:∀ v,a.us (v+1)->Jt.us (.all false w a) v:=λ v hv=>⟨hf,hv⟩
    have z:∀ {m:Nat},TK (m+1) (.v 0):=KD (by omega);have ih:=sC ht a b (n+1) (n'+1) _ _ (mA σ) (mA τ) _ _ g1 h1' ee ra (by rw [GF];exact S.bind.var (t:=.v 0) z) (by rw [GF];exact S'.bind.var (t:=.v 0) z) ((R.bind S S').var (t:=.v 0) (t':=.v 0) rfl hu) ha;show Tm.lam _ (b.xt tl (s'.bind.var (.v 0)))=(Tm.lam _ (a.xt tl (s.bind.var (.v 0)))).sub τ;rw [ih];rfl
   ·have ha:a.f.has=true:=hf;have hu:∀ v,a.us (v+1)->Jt.us (.all true w a) v:=λ v hv=>⟨hf,hv⟩
    exact sC ht a b (n+1) (n'+1) _ _ (mA σ) τ _ _ g1 h1' ee ra (by rw [GF];exact S.var (t:=w.ini) (LI _ g0 _)) (by rw [GF];exact S'.var (t:=w.ini) (LI _ g0 _)) (R.var (mX _ _) hu) ha
  | _=>cases r
 | .ins u t a f,j',n,n',hs,hs',σ,τ,s,s',⟨_,g0,g1,w,x,e1,e3⟩,h',e,⟨t',a',r,rt,ra⟩,S,S',R,hf=>by
  cases j' with
  | ins u' t2 b f' =>
   obtain⟨-,-,h1',-⟩:=h';cases r;replace hf:f.has=true:=hf;have hxh:x.has=true:=by rw [<- oB (iD e3)];exact hf
   have ha:a.f.has=true:=by rw [e1];cases u<;>exact hxh
   have ih:=sC ht a b n n' hs hs' σ τ s s' g1 h1' e ra S S' (R.mono λ v hv=>⟨hf,.inl hv⟩) ha;cases u
   ·show Tm.n2 .app (b.xt tl s') (t'.ps s'.vs s'.dep 0)=(Tm.n2 .app (a.xt tl s) (t.ps s.vs s.dep 0)).sub τ;rw [ih,rt rfl,R.tm S.vl g0.sc λ v hv=>⟨hf,.inr ⟨rfl,hv⟩⟩];rfl
   ·exact ih
  | _=>cases r
 | .ex u x t a,j',n,n',hs,hs',σ,τ,s,s',⟨_,g0,g1,⟨w,e1⟩,e3⟩,h',e,⟨x',t',a',r,rx,rt,ra⟩,S,S',R,hf=>by
  cases j' with
  | ex u' x2 t2 b =>
   obtain⟨-,-,h1',-⟩:=h';cases r;replace hf:x.has=true:=hf;have q:=JF ls a b n n' hs hs' σ g1 h1' e ra;have ih:=λ ha=>sC ht a b n n' hs hs' σ τ s s' g1 h1' e ra S S' (R.mono λ v hv=>⟨hf,.inl hv⟩) ha
   cases u
   ·have it:=R.tm (t:=t) S.vl g0.sc λ v hv=>⟨hf,.inr ⟨rfl,hv⟩⟩
    show (bif b.f.has then Tm.n2 .pair (t'.ps s'.vs s'.dep 0) (b.xt tl s') else t'.ps s'.vs s'.dep 0)=(bif a.f.has then Tm.n2 .pair (t.ps s.vs s.dep 0) (a.xt tl s) else t.ps s.vs s.dep 0).sub τ;rw [oB q,rt rfl,it];cases ha:a.f.has
    ·rfl
    ·show Tm.n2 .pair _ _=_;rw [ih ha];rfl
   ·refine ih ?_;rw [oB e3];rw [e1] at hf;exact hf
  | _=>cases r
 | .ind l x t a b f,j',n,n',hs,hs',σ,τ,s,s',⟨_,_,g0,g1,e1,⟨ea,eb⟩,g2⟩,h',e,⟨x',t',a',b',r,rx,rt,ra,rb⟩,S,S',R,hf=>by
  cases j' with
  | ind l' x2 t2 c d f' =>
   obtain⟨-,-,-,h1',-,-,h2'⟩:=h';cases r;replace hf:f.has=true:=hf;have hxh:x.has=true:=by rw [<- oB (iD e1)];exact hf
   have ha:a.f.has=true:=by rw [oB ea];exact hxh
   have hbh:b.f.has=true:=by rw [oB eb];exact hxh
   have iha:=sC ht a c n n' hs hs' σ τ s s' g1 h1' e ra S S' (R.mono λ v hv=>⟨hf,.inr (.inl hv)⟩) ha;have it:=R.tm (t:=t) S.vl g0.sc λ v hv=>⟨hf,.inl hv⟩
   have z:∀ {m:Nat},TK (m+1) (.v 0):=KD (by omega);cases l
   ·have hu:∀ v,b.us (v+1)->Jt.us (.ind false x t a b f) v:=λ v hv=>⟨hf,.inr (.inr hv)⟩
    have S1:=(S.bind.var (t:=.v 0) z).bind.hyp (t:=.v 0) z true;have S1':=(S'.bind.var (t:=.v 0) z).bind.hyp (t:=.v 0) z true;have R1:=(((R.bind S S').var (t:=.v 0) (t':=.v 0) (W:=b.us) rfl hu).bind (S.bind.var (t:=.v 0) z) (S'.bind.var (t:=.v 0) z)).hyp (t:=.v 0) (t':=.v 0) rfl;have ihb:=sC ht b d (n+1) (n'+1) _ _ (mA σ) (mA (mA τ)) _ _ g2 h2' (CK 1 e rx) rb (by rw [DG,hxh];exact S1) (by rw [DG,hxh];exact S1') R1 hbh;show Tm.n3 .re x'.cty (c.xt tl s') (.lam .nat (.lam x'.cty (d.xt tl ((s'.bind.var (.v 0)).bind.hyp (.v 0))))) (t'.ps s'.vs s'.dep 0)=(Tm.n3 .re x.cty (a.xt tl s) (.lam .nat (.lam x.cty (b.xt tl ((s.bind.var (.v 0)).bind.hyp (.v 0))))) (t.ps s.vs s.dep 0)).sub τ;rw [oN rx,iha,ihb,rt,it];rfl
   ·have hu:∀ v,b.us (v+1+1)->Jt.us (.ind true x t a b f) v:=λ v hv=>⟨hf,.inr (.inr hv)⟩
    have A1:=S.bind.var (t:=.v 0) z;have A1':=S'.bind.var (t:=.v 0) z;have A2:=A1.bind.var (t:=.v 0) z;have A2':=A1'.bind.var (t:=.v 0) z;have S1:=A2.bind.hyp (t:=.v 0) z true;have S1':=A2'.bind.hyp (t:=.v 0) z true;have R0:=(((R.bind S S').var (t:=.v 0) (t':=.v 0) (W:=λ v=>b.us (v+1)) rfl hu).bind A1 A1').var (t:=.v 0) (t':=.v 0) (W:=b.us) rfl λ v hv=>hv
    have R1:=(R0.bind A2 A2').hyp (t:=.v 0) (t':=.v 0) rfl;have ihb:=sC ht b d (n+2) (n'+2) _ _ (mA (mA σ)) (mA (mA (mA τ))) _ _ g2 h2' (CK 2 e (by rw [oE,oE,rx])) rb (by rw [DG,oB (oE _ x 1),hxh];exact S1) (by rw [DG,oB (oE _ x 1),hxh];exact S1') R1 hbh;show Tm.n3 .fo x'.cty (c.xt tl s') (.lam .nat (.lam .list (.lam x'.cty (d.xt tl (((s'.bind.var (.v 0)).bind.var (.v 0)).bind.hyp (.v 0)))))) (t'.ps s'.vs s'.dep 0)=(Tm.n3 .fo x.cty (a.xt tl s) (.lam .nat (.lam .list (.lam x.cty (b.xt tl (((s.bind.var (.v 0)).bind.var (.v 0)).bind.hyp (.v 0)))))) (t.ps s.vs s.dep 0)).sub τ;rw [oN rx,iha,ihb,rt,it];rfl
  | _=>cases r
 | .subst x a b f,j',n,n',hs,hs',σ,τ,s,s',⟨_,_,_,g3,eb,t,u,e1,e2⟩,h',e,⟨x',a',b',r,rx,ra,rb⟩,S,S',R,hf=>by
  cases j' with
  | subst x2 c d f' =>
   obtain⟨-,-,-,h3',-⟩:=h';cases r;replace hf:f.has=true:=hf;have hbh:b.f.has=true:=by rw [oB eb,<- oB (iD e2)];exact hf
   exact sC ht b d n n' hs hs' σ τ s s' g3 h3' e rb S S' (R.mono λ v hv=>⟨hf,hv⟩) hbh
  | _=>cases r
def qD (d:Nat):Nat->Nat->List (Tm × Nat)
 | _,0=>[]
 | i,n+1=>(.v (d-1-i),d)::qD d (i+1) n
abbrev NI:List PV:=[.int 0,.int 0,.nils,.nils]
abbrev Be (c a i v:Nat) (A:List (List PV)):IS:=st [(4,.loc 0 0),(5,.loc 1 0),(11,.pv (num a)),(12,.pv (num i))] [(0,bx NI),(1,.box [.pv (num c),.pv (num 0),.arr 2 v A.length,.pv .nils]),(2,.arr v 6 195 (vA A))] 3 []
abbrev Ce:Kp:=⟨[4,5,11,12],[0,1,2],3,[]⟩
theorem Ee (c a:Nat) (hc:c<=qA) (ha:a<=c):∀ (r i v:Nat) (A:List (List PV)),i+r=a->A.length=i ->
  ∃ v',Lp 96 0 0 (Be c a i v A) (.exit 0) (st [(4,.loc 0 0),(5,.loc 1 0)] [(0,bx NI),(1,.box [.pv (num c),.pv (num 0),.arr 2 v' (A.length+r),.pv .nils]),(2,.arr v' 6 195 (vA (A++(qD c i r).map ec)))] 3 [])
 | 0,i,v,A,h,hA=>by
  have e:uA (.ofNat i) (.ofNat a)=false:=JA (by omega);simp only [qD,List.map_nil,List.append_nil,Nat.add_zero];exact⟨v,y1 [(13,.H)] ⟨[4,5],[0,1,2],3,[]⟩ e (QC A)⟩
 | r+1,i,v,A,h,hA=>by
  have hm:=zA;have hb:=kA;have e:uA (.ofNat i) (.ofNat a)=true:=cA (by omega);have g1:=uB (a:=c) (by omega) (by omega);have g2:aA (Int.ofNat (c-1) - .ofNat i)=true/\Int.ofNat (c-1) - .ofNat i = .ofNat (c-1-i):=by
   have e:Int.ofNat (c-1) - .ofNat i = .ofNat (c-1-i):=by simp;omega
   exact⟨by rw [e];exact rA (by omega),e⟩
  have g5:=GL (A:=A) (v:=v) (ty:=195) (m:=80) (c:=ec (.v (c-1-i),c)) (show 0<6 by decide) rfl rfl (by simp only [maxLen];omega) (by omega);have g6:=iA (a:=i) (b:=1) (by omega);obtain⟨v',ih⟩:=Ee c a hc ha r (i+1) (v+1) (A++[ec (.v (c-1-i),c)]) (by omega) (by simp [hA]);dsimp only [Be] at ih;rw [xI,show (A++[ec (.v (c-1-i),c)]).length=A.length+1 by simp,show A.length+1+r=A.length+(r+1) by omega,List.append_assoc] at ih;exact⟨v',n8 [(13,.G),(19,.z (c-1)),(21,.z (c-1-i)),(22,.r (Tm.v (c-1-i)).p),(27,.ok),(29,.z (i+1))] Ce e g1 g2 (GB (c-1-i)) g5 g6 (DF A (ec (.v (c-1-i),c))) ih⟩
abbrev wC (a b:Nat):Sc:=⟨a+b,0,qD (a+b) 0 a,[]⟩
theorem AN (d:Nat):∀ (n i:Nat),(qD d i n).length=n
 | 0,_=>rfl
 | n+1,i=>by simp [qD,AN d n]
theorem Zq (a b:Nat) (h:a+b<=qA):A 96 [num a,num b] (wC a b).p:=by
 have hm:=zA;have hb:=kA;have g0:=iA (a:=a) (b:=b) (by omega)
 cases a with
 | zero =>
  have h1:Lp 96 0 0 (st [(4,.loc 0 0),(5,.loc 1 0),(11,.pv (num 0)),(12,.pv (num 0))] [(0,bx NI),(1,bx [num (0+b),num 0,.nils,.nils])] 2 []) (.exit 0) (st [(4,.loc 0 0),(5,.loc 1 0)] [(0,bx NI),(1,bx [num (0+b),num 0,.nils,.nils])] 2 []) :=
   x0 [] ⟨[4,5],[0,1],2,[]⟩
  exact f2 [(9,.z (0+b)),(100003,.l ⟨[4,5,11,12],[0,1],2,[]⟩ (.exit 0) (st [(4,.loc 0 0),(5,.loc 1 0)] [(0,bx NI),(1,bx [num (0+b),num 0,.nils,.nils])] 2 []))] g0 h1
 | succ a =>
  generalize hc:a+1+b=c at *
  obtain⟨v,h1⟩:=Ee c (a+1) (by omega) (by omega) a 1 1 [ec (.v (c-1-0),c)] (by omega) rfl;have em : [ec (.v (c-1-0),c)]++(qD c 1 a).map ec=(qD c 0 (a+1)).map ec:=rfl;rw [em] at h1;have h2:=LoopIs.fz (by simp) h1 2 (ver:=v) (sz:=6) (ty:=195) (ps:=(qD c 0 (a+1)).map ec) rfl (by kernel_rfl);have el:(([ec (.v (c-1-0),c)]:List (List PV)).length+a)=a+1:=by simp;omega
  rw [el] at h2;simp (decide:=true) only [rE,FD,cC,ZB,BC,bx,NI,List.map,tD,and_self,↓reduceIte,List.take_of_length_le (show ((qD c 0 (a+1)).map ec).length<=a+1 by simp [AN])] at h2;have e:uA (.ofNat 0) (.ofNat (a+1))=true:=cA (by omega);have g1:=uB (a:=c) (by omega) (by omega);have g2:aA (Int.ofNat (c-1) - .ofNat 0)=true/\Int.ofNat (c-1) - .ofNat 0 = .ofNat (c-1-0):=by
   have e:Int.ofNat (c-1) - .ofNat 0 = .ofNat (c-1-0):=by simp
   exact⟨by rw [e];exact rA (by omega),e⟩
  have h3:Lp 96 0 0 (st [(4,.loc 0 0),(5,.loc 1 0),(11,.pv (num (a+1))),(12,.pv (num 0))] [(0,bx NI),(1,bx [num c,num 0,.nils,.nils])] 2 []) (.exit 0) (st [(4,.loc 0 0),(5,.loc 1 0)] [(0,bx NI),(1,bx [num c,num 0,.slice ((qD c 0 (a+1)).map ec),.nils])] 3 []) :=
   n6 [(13,.G),(19,.z (c-1)),(21,.z (c-1-0)),(22,.r (Tm.v (c-1-0)).p)] Ce e g1 g2 (GB (c-1-0)) (DF [] (ec (.v (c-1-0),c))) h2
  exact f2 [(9,.z c),(100003,.l ⟨[4,5,11,12],[0,1],2,[]⟩ (.exit 0) (st [(4,.loc 0 0),(5,.loc 1 0)] [(0,bx NI),(1,bx [num c,num 0,.slice ((qD c 0 (a+1)).map ec),.nils])] 3 []))] g0 h3
theorem Fe (g:List Ty) (hg:g.length<=16):A 47 [ZA g []] (wC g.length 0).p:=by
 have hm:=zA;have g1:=Zq (g.map Ty.c).length 0 (by simp;omega);rw [show wC (g.map Ty.c).length 0=wC g.length 0 by simp] at g1;exact f1 [(36,.r (wC g.length 0).p)] g1
open Go.Lg
theorem Ge (d:Nat):∀ (n i k:Nat),k<n->(qD d i n)[k]? = some (.v (d-1-(i+k)),d)
 | 0,_,_,h=>absurd h (Nat.not_lt_zero _)
 | n+1,i,0,_=>rfl
 | n+1,i,k+1,h=>by
  have:=Ge d n (i+1) k (by omega);simp only [qD,List.getElem?_cons_succ];rw [this,show i+1+k=i+(k+1) by omega]
theorem He (d:Nat):∀ (n i:Nat) (e:Tm × Nat),e∈qD d i n->∃ k,e=(.v (d-1-k),d)
 | 0,_,_,h=>by cases h
 | n+1,i,e,h=>by
  rcases List.mem_cons.1 h with rfl|h
  ·exact⟨i,rfl⟩
  ·exact He d n (i+1) e h
theorem cT (a b:Nat):ScOK a [] (wC a b):=by
 refine⟨AN _ _ _,rfl,λ e he => ?_,(λ h hh=>by cases hh),λ i hi=>by simp at hi⟩
 cases a with
 | zero=>cases he
 | succ a =>
  obtain⟨k,rfl⟩:=He _ _ _ _ he;exact⟨Nat.le_refl _,KD (by omega)⟩
theorem Ie:A 16 [fA [],row []] (num 0):=by
 have e:(!tB (.ofNat (([]:List Fm).map Fm.c).length) (.ofNat (([]:List Tm).map Tm.c).length))=false:=rfl;exact f1 [(14,.H)] e
abbrev Je (ls hs:List Fm) (g:List Ty) (k:Nat):IS:=st [(3,.loc 0 0),(15,.pv (fA ls)),(16,.pv (num (ls.map Fm.c).length)),(17,.pv (num k))] [(0,bx [AA g,fA hs])] 1 []
abbrev VP (hs:List Fm) (g:List Ty):IS:=st [(3,.loc 0 0)] [(0,bx [AA g,fA hs])] 1 []
theorem Ke (hs:List Fm) (g:List Ty) {ls:List Fm} (hl:ls.length<=qA):∀ (r:List Fm) (k:Nat),ls.drop k=r->(∀ f∈r,f.cnt+1024<=qA/\f.tsz<=qA) ->
  (Lp 72 0 0 (Je ls hs g k) (.exit 0) (VP hs g) /\ ∀ f∈r,f.chk=0) \/ ∃ e,Lp 72 0 0 (Je ls hs g k) .ret (st [(4,.pv (num (e+1)))] [] 1 [])
 | [],k,h,_ => .inl ⟨x1 [(18,.H)] ⟨[3],[0],1,[]⟩ (show uA (.ofNat k) (.ofNat (ls.map Fm.c).length)=false from JA (by simpa using nG h)),λ f h=>by cases h⟩
 | f::r,k,h,hb=>by
  obtain⟨h1,h2,h3⟩:=mG h;have hm:=zA;have hlt:uA (.ofNat k) (.ofNat (ls.map Fm.c).length)=true:=cA (by simpa using h2);have hf:=hb f (by simp);obtain⟨e,g1,q1⟩:=nS [] f (λ s h=>by cases h) hf.2 (by have:=hf.1;simp;omega)
  cases e with
  | succ e=>exact .inr ⟨e,x3 [(18,.G),(19,.i f.c),(22,.N (e+1))] ⟨[4],[],1,[]⟩ hlt (kB h1 Fm.c_len) g1⟩
  | zero =>
   have q2:=(q1 rfl).1;rcases Ke hs g hl r (k+1) h3 (λ t ht=>hb t (by simp [ht])) with ⟨ih,q⟩|⟨e,ih⟩
   ·refine .inl ⟨n5 [(18,.G),(19,.i f.c),(22,.N 0),(26,.ok)] ⟨[3,15,16,17],[0],1,[]⟩ hlt (kB h1 Fm.c_len) g1 (rA (show k+1<=_ by omega)) ih,λ x hx => ?_⟩;rcases List.mem_cons.1 hx with rfl|hx
    ·exact q2
    ·exact q x hx
   ·exact .inr ⟨e,n5 [(18,.G),(19,.i f.c),(22,.N 0),(26,.ok)] ⟨[3,15,16,17],[0],1,[]⟩ hlt (kB h1 Fm.c_len) g1 (rA (show k+1<=_ by omega)) ih⟩
abbrev Le (hs:List Fm) (g:List Ty) (k:Nat):IS:=st [(3,.loc 0 0),(38,.pv (fA hs)),(39,.pv (num (hs.map Fm.c).length)),(40,.pv (num k))] [(0,bx [AA g,fA hs])] 1 []
theorem Me (g:List Ty) (hg:∀ s∈g,s.size<=qA) (hgl:g.length<=1024) {hs:List Fm} (hl:hs.length<=qA):∀ (r:List Fm) (k:Nat),hs.drop k=r->(∀ f∈r,f.cnt+1024<=qA/\f.tsz<=qA) ->
  (Lp 72 1 0 (Le hs g k) (.exit 2) (st [] [] 1 []) /\ ∀ f∈r,f.chk=0) \/ ∃ e,Lp 72 1 0 (Le hs g k) .ret (st [(4,.pv (num (e+1)))] [] 1 [])
 | [],k,h,_ => .inl ⟨x1 [(41,.H)] ⟨[],[],1,[]⟩ (show uA (.ofNat k) (.ofNat (hs.map Fm.c).length)=false from JA (by simpa using nG h)),λ f h=>by cases h⟩
 | f::r,k,h,hb=>by
  obtain⟨h1,h2,h3⟩:=mG h;have hm:=zA;have hlt:uA (.ofNat k) (.ofNat (hs.map Fm.c).length)=true:=cA (by simpa using h2);have hf:=hb f (by simp);obtain⟨e,g1,q1⟩:=nS g f hg hf.2 (by have:=hf.1;omega)
  cases e with
  | succ e=>exact .inr ⟨e,x3 [(41,.G),(42,.i f.c),(47,.N (e+1))] ⟨[4],[],1,[]⟩ hlt (kB h1 Fm.c_len) g1⟩
  | zero =>
   have q2:=(q1 rfl).1;rcases Me g hg hgl hl r (k+1) h3 (λ t ht=>hb t (by simp [ht])) with ⟨ih,q⟩|⟨e,ih⟩
   ·refine .inl ⟨n5 [(41,.G),(42,.i f.c),(47,.N 0),(51,.ok)] ⟨[3,38,39,40],[0],1,[]⟩ hlt (kB h1 Fm.c_len) g1 (rA (show k+1<=_ by omega)) ih,λ x hx => ?_⟩;rcases List.mem_cons.1 hx with rfl|hx
    ·exact q2
    ·exact q x hx
   ·exact .inr ⟨e,n5 [(41,.G),(42,.i f.c),(47,.N 0),(51,.ok)] ⟨[3,38,39,40],[0],1,[]⟩ hlt (kB h1 Fm.c_len) g1 (rA (show k+1<=_ by omega)) ih⟩
structure nX (ls:List Fm) (g:List Ty) (hs:List Fm):Prop where
 ls:∀ f∈ls,f.chk=0
 gl:g.length<=16
 gs:∀ s∈g,s.size<=64
 hl:hs.length<=16
 hs:∀ f∈hs,f.chk=0
theorem zr (ls:List Fm) (g:List Ty) (hs:List Fm) (hl1:∀ f∈ls,f.cnt+1024<=qA/\f.tsz<=qA) (hl2:∀ f∈hs,f.cnt+1024<=qA/\f.tsz<=qA) (hg:∀ s∈g,s.size<=qA) (hgl:g.length<=1024) (h1:ls.length<=qA) (h2:hs.length<=qA):∃ e,A 72 [fA ls,ZA g hs] (num e)/\(e=0->nX ls g hs):=by
 have hm:=zA;have hb:=kA;cases e0:uA (.ofNat 32) (.ofNat (ls.map Fm.c).length);rotate_left
 ·exact⟨3,f1 [(14,.G)] e0,nofun⟩
 rcases Ke hs g h1 ls 0 rfl hl1 with ⟨g1,q1⟩|⟨e,g1⟩;rotate_left
 ·exact⟨e+1,f2 [(14,.H),(100004,.l ⟨[3,15,16,17],[0],1,[]⟩ .ret (st [(4,.pv (num (e+1)))] [] 1 []))] e0 g1,nofun⟩
 have g2:=kW g (λ s h=>by have:=hg s h;omega)
 cases e2:XG g with
 | succ e =>
  rw [e2] at g2;exact⟨e+1,f3 [(14,.H),(100004,.l ⟨[3,15,16,17],[0],1,[]⟩ (.exit 0) (VP hs g)),(29,.N (e+1))] e0 g1 g2,nofun⟩
 | zero =>
  rw [e2] at g2;obtain⟨c1,c2⟩:=ln e2;cases e3:uA (.ofNat 16) (.ofNat (hs.map Fm.c).length);rotate_left
  ·exact⟨3,f4 [(14,.H),(100004,.l ⟨[3,15,16,17],[0],1,[]⟩ (.exit 0) (VP hs g)),(29,.N 0),(36,.G)] e0 g1 g2 e3,nofun⟩
  have c3:hs.length<=16:=by
   rw [KB] at e3;simp at e3;omega
  rcases Me g hg hgl h2 hs 0 rfl hl2 with ⟨g4,q4⟩|⟨e,g4⟩
  ·exact⟨0,f5 [(14,.H),(100004,.l ⟨[3,15,16,17],[0],1,[]⟩ (.exit 0) (VP hs g)),(29,.N 0),(36,.H),(100016,.l ⟨[3,38,39,40],[0],1,[]⟩ (.exit 2) (st [] [] 1 []))] e0 g1 g2 e3 g4,λ _=>⟨q1,c1,c2,c3,q4⟩⟩
  ·exact⟨e+1,f5 [(14,.H),(100004,.l ⟨[3,15,16,17],[0],1,[]⟩ (.exit 0) (VP hs g)),(29,.N 0),(36,.H),(100016,.l ⟨[3,38,39,40],[0],1,[]⟩ .ret (st [(4,.pv (num (e+1)))] [] 1 []))] e0 g1 g2 e3 g4,nofun⟩
theorem Oe:∀ u:List Nat,gC 1 (vA (u.map ic))=true/\lC (vA (u.map ic))=true
 | []=>⟨rfl,rfl⟩
 | n::r=>Oe r
structure jr (X:Nat) (ls:List Fm) (g:List Ty) (hs:List Fm) (p:Pf):Prop where
 l1:∀ f∈ls,f.cnt+1024<=qA/\f.tsz<=qA/\f.mx<=X
 h1:∀ f∈hs,f.cnt+1024<=qA/\f.tsz<=qA/\f.mx<=X
 g1:∀ s∈g,s.size<=qA
 gl:g.length<=1024
 hl:hs.length<=1000
 ll:ls.length<=1024
 cnt:p.cnt<=bA
 tsz:p.tsz<=qA
 mx:p.mx<=X
 X:X+nA * 16384<=nB
theorem Pe (H:MF) {X:Nat} {ls:List Fm} {g:List Ty} {hs:List Fm} {p:Pf} (hb:jr X ls g hs p):∃ r:PR,A 18 [fA ls,ZA g hs,p.p] r.p /\ ∀ f u,r = .ok f u->nX ls g hs/\p.ck/\p.cnt<=16384/\FO (X+nA * 16384) f/\(∃ j:Jt,j.p=p/\j.f=f/\j.D ls g hs /\ ∀ v,j.us v->v∈u)/\u.length<=16384:=by
 have hm:=zA;have hbg:=kA;have b1:=hb.gl;have b2:=hb.hl;have b3:=hb.ll;obtain⟨e,g1,q1⟩:=zr ls g hs (λ f hf=>⟨(hb.l1 f hf).1,(hb.l1 f hf).2.1⟩) (λ f hf=>⟨(hb.h1 f hf).1,(hb.h1 f hf).2.1⟩) hb.g1 (by omega) (by omega) (by omega)
 cases e with
 | succ e=>exact⟨.er e,f1 [(14,.N (e+1))] g1,λ f u h=>by cases h⟩
 | zero =>
  have hq:=q1 rfl;obtain⟨e,g2,q2⟩:=dm p hb.cnt hb.tsz
  cases e with
  | succ e=>exact⟨.er e,f2 [(14,.N 0),(20,.N (e+1))] g1 g2,λ f u h=>by cases h⟩
  | zero =>
   obtain⟨hk,hc⟩:=q2 rfl;have hX:=hb.X;have c1:nA * p.cnt<=nA * 16384:=Nat.mul_le_mul_left _ hc;have hpre:Pre ls g hs X p:=⟨λ f hf=>⟨(Fm.chk0 (hq.ls f hf)).1,(hb.l1 f hf).2.2,(hb.l1 f hf).2.1⟩,λ f hf=>⟨(Fm.chk0 (hq.hs f hf)).1,(hb.h1 f hf).2.2,(hb.h1 f hf).2.1⟩,hb.g1,hb.gl,hb.hl,hb.ll,by omega,hb.tsz,hb.mx,by omega⟩;obtain⟨r,g3,q3⟩:=TE H p ls g hs X hpre
   cases r with
   | er n=>exact⟨.er n,f3 [(14,.N 0),(20,.N 0),(33,.r (PR.er n).p)] g1 g2 g3,λ f u h=>by cases h⟩
   | ok f u =>
    obtain⟨k1,k3,k2,k4,k5⟩:=q3;obtain⟨s1,s2⟩:=Oe u;have g5:(Nat.blt 0 1 && gC 1 (vA (u.map ic)) && lC (vA (u.map ic)) && Nat.ble (vA (u.map ic)).length maxLen && Nat.ble ((vA (u.map ic)).length * 8) 140737488355328)=true:=by
     rw [s1,s2,pvE_len,List.length_map,Nat.ble_eq_true_of_le (show u.length<=maxLen by simp only [maxLen];omega),Nat.ble_eq_true_of_le (show u.length * 8<=140737488355328 by omega)];rfl
    have g6:A 18 [fA ls,ZA g hs,p.p] (.tuple [.agg [num f.kd,num f.tk,.slice f.te,.slice f.ts,.slice f.es,.slice (List.take (vA (u.map ic)).length (u.map ic))],num 0]) :=
     f6 [(14,.N 0),(20,.N 0),(33,.r (PR.ok f u).p),(42,.r f.p),(45,.ok),(300010,.f 4 (u.map ic))] g1 g2 g3 (aD f) g5 (rfl:vA (u.map ic)=vA (u.map ic))
    rw [pvE_len,List.take_length] at g6;refine⟨.ok f u,g6,λ f' u' h => ?_⟩;cases h;exact⟨hq,hk,hc,⟨k1.1,by have:=k1.2.1;omega,k1.2.2⟩,k3,by omega⟩
open Go.Lg
def Fm.csz:Fm->Nat
 | .eq _ _=>1
 | .bin _ f g=>1+f.csz+g.csz
 | .q _ s f=>1+s.size+f.csz
end Go.Proofs.YtnkoaepelgbhfaaGreatDoor
namespace Go.Proofs.YtnkoaepelgbhfaaGreatDoor
open Go.Lg
set_option maxRecDepth 100000
abbrev WH (z:Int):List PV:=[.int z]
theorem vr (z:Int):(WH z).length=1:=rfl
abbrev dk (L:List Int) (a:Nat):Ob:=bx [.slice (L.map WH),num a]
abbrev _root_.Go.Lg.De.D (L:List Int) (b:Nat) (x:V):De:=.d 0 (dk L b) x
structure Dk (L:List Int):Prop where
 len:L.length<=500
 rng:∀ z∈L,-9223372036854775808<=z/\z<=9223372036854775807
theorem kr (z:Int) (k:Nat) (h:1<=k) (hk:k<=qA) (hz : -9223372036854775808<=z/\z<=9223372036854775807):∃ x,x<k/\A 76 [.int z,num k] (num x):=by
 have hm:=zA;have h0:(!tB (.ofNat k) 0)=true:=by
  rw [cH];simp;omega
 have hb : -(k:Int)<z.tmod (.ofNat k)/\z.tmod (.ofNat k)<k:=by
  constructor
  ·have:=Int.lt_tmod_of_pos z (show (0:Int) < .ofNat k by simp;omega);simpa using this
  ·have:=Int.tmod_lt_of_pos z (show (0:Int) < .ofNat k by simp;omega);simpa using this
 have e0:0<=z.tmod (.ofNat k) + .ofNat k:=by
  show (0:Int)<=z.tmod (.ofNat k)+(k:Int);omega
 have e1:0<=(z.tmod (.ofNat k) + .ofNat k).tmod (.ofNat k)/\(z.tmod (.ofNat k) + .ofNat k).tmod (.ofNat k)<k:=by
  refine⟨Int.tmod_nonneg _ e0,?_⟩;have:=Int.tmod_lt_of_pos (z.tmod (.ofNat k) + .ofNat k) (show (0:Int) < .ofNat k by simp;omega);simpa using this
 have e2:z.tmod (.ofNat k) + .ofNat k<=1152921504606846976:=by
  show z.tmod (.ofNat k)+(k:Int)<=_;omega
 obtain⟨x,hx⟩:=Int.eq_ofNat_of_zero_le e1.1;have g1:(!tB (.ofNat k) 0)=true/\z.tmod (.ofNat k)=z.tmod (.ofNat k):=⟨h0,rfl⟩;have g2:aA (z.tmod (.ofNat k) + .ofNat k)=true/\z.tmod (.ofNat k) + .ofNat k=z.tmod (.ofNat k) + .ofNat k:=⟨TM (by omega) e2,rfl⟩;have g3:(!tB (.ofNat k) 0)=true/\(z.tmod (.ofNat k) + .ofNat k).tmod (.ofNat k) = .ofNat x:=⟨h0,hx⟩;exact⟨x,by omega,f3 [(7,.y (z.tmod (.ofNat k))),(9,.y (z.tmod (.ofNat k) + .ofNat k)),(11,.z x)] g1 g2 g3⟩
theorem nx {L:List Int} (hL:Dk L) {a:Nat} (ha:a<=L.length) {n:Nat} (h1:1<=n) (h2:n<=qA):∃ x b,x<n/\b<=L.length/\O 21 [.loc 0 0,.pv (num n)] [(0,dk L a)] (.pv (num x)) [(0,dk L b)]:=by
 have hl:=hL.len;have hm:=zA;have hb:=kA;have g0:uA (.ofNat n) 1=false:=by rw [KB];simp;omega
 by_cases h:a=L.length
 ·have g1:(!uA (.ofNat a) (.ofNat (L.map WH).length))=true:=CH (by simp;omega);exact⟨0,a,by omega,ha,o2 1 [(7,.H),(18,.G)] g0 g1⟩
 ·have g1:(!uA (.ofNat a) (.ofNat (L.map WH).length))=false:=xF (by simp;omega);obtain⟨z,hz⟩:∃ z,L[a]? = some z:=⟨_,List.getElem?_eq_getElem (by omega)⟩;obtain⟨x,hx,g2⟩:=kr z n h1 h2 (hL.rng z (List.mem_of_getElem? hz));exact⟨x,a+1,hx,by omega,o5 1 [(7,.H),(18,.H),(28,.i (WH z)),(34,.z (a+1)),(39,.N x)] g0 g1 (kB hz vr) (iA (a:=a) (b:=1) (by omega)) g2⟩
theorem oA:A 29 [] Ty.nat.p:=f0 []
theorem DK:A 30 [] Ty.list.p:=f0 []
theorem yr:A 77 [] Ty.unit.p:=f0 []
def BN:Nat->Nat
 | 0=>1
 | k+1=>1+2 * BN k
theorem ur (k:Nat):1<=BN k:=by cases k<;>simp [BN]
theorem zD {L:List Int} (hL:Dk L):∀ (k:Nat),k<=qA->∀ {a:Nat},a<=L.length->∃ (t:Ty) (b:Nat),t.size<=BN k/\b<=L.length/\O 25 [.loc 0 0,.pv (num k)] [(0,dk L a)] (.pv t.p) [(0,dk L b)]
 | k,hk,a,ha=>by
  have hm:=zA;have hb:=kA;obtain⟨x,b,hx,hb1,g1⟩:=nx hL ha (n:=7) (by omega) (by omega);have t1:=ur k;rcases x with _|_|_|_|_|_|_|x
  ·exact⟨.nat,b,t1,hb1,o2 1 [(6,.D L b (.pv (num 0))),(11,.Y)] g1 oA⟩
  ·exact⟨.nat,b,t1,hb1,o2 1 [(6,.D L b (.pv (num 1))),(11,.Y)] g1 oA⟩
  ·exact⟨.nat,b,t1,hb1,o2 1 [(6,.D L b (.pv (num 2))),(11,.Y)] g1 oA⟩
  ·exact⟨.list,b,t1,hb1,o2 1 [(6,.D L b (.pv (num 3))),(14,.r Ty.list.p)] g1 DK⟩
  ·exact⟨.unit,b,t1,hb1,o2 1 [(6,.D L b (.pv (num 4))),(17,.r Ty.unit.p)] g1 yr⟩
  ·cases k with
   | zero=>exact⟨.nat,b,t1,hb1,o2 1 [(6,.D L b (.pv (num 5))),(44,.Y)] g1 oA⟩
   | succ k =>
    have gs:=uB (a:=k+1) (by omega) (by omega);obtain⟨t,c,z1,hc,g2⟩:=zD hL k (by omega) hb1;obtain⟨u,d,z2,hd,g3⟩:=zD hL k (by omega) hc;exact⟨.two false t u,d,by simp only [Ty.size,BN];omega,hd,o6 1 [(6,.D L b (.pv (num 5))),(24,.z k),(25,.D L c (.pv t.p)),(28,.z k),(29,.D L d (.pv u.p)),(30,.r (Ty.two false t u).p)] g1 gs g2 gs g3 (Wb t u)⟩
  ·cases k with
   | zero=>exact⟨.nat,b,t1,hb1,o2 1 [(6,.D L b (.pv (num 6))),(44,.Y)] g1 oA⟩
   | succ k =>
    have gs:=uB (a:=k+1) (by omega) (by omega);obtain⟨t,c,z1,hc,g2⟩:=zD hL k (by omega) hb1;obtain⟨u,d,z2,hd,g3⟩:=zD hL k (by omega) hc;exact⟨.two true t u,d,by simp only [Ty.size,BN];omega,hd,o6 1 [(6,.D L b (.pv (num 6))),(37,.z k),(38,.D L c (.pv t.p)),(41,.z k),(42,.D L d (.pv u.p)),(43,.r (Ty.two true t u).p)] g1 gs g2 gs g3 (xL t u)⟩
  ·omega
theorem fH {n:Nat} (h:n<4):A 20 [num n] (UA n).p:=f1 [(7,.U [(UA n).p,num 0])] (wm h)
theorem OI (f a b:Tm):A 32 [f.p,row [a,b]] (Tm.n2 .app (.n2 .app f a) b).p:=by
 have h:∀ x y:Tm,A 26 [num 3,row [x,y]] (Tm.n2 .app x y).p:=λ x y=>cF 3 x y
 exact f2 [(16,.r (Tm.n2 .app f a).p),(16,.r (Tm.n2 .app (.n2 .app f a) b).p)] (h f a) (h (.n2 .app f a) b)
theorem pX {α:Type} {c:α->List PV} {n:Nat} (hn:∀ t,(c t).length=n) (h1:∀ t,lC [xA (c t)]=true):∀ g:List α,gC n (vA (g.map c))=true/\lC (vA (g.map c))=true
 | []=>⟨rfl,rfl⟩
 | t::r=>by
  obtain⟨a,b⟩:=pX hn h1 r;have e:vA ((t::r).map c)=xA (c t)::vA (r.map c):=rfl;rw [e];constructor
  ·unfold gC;rw [mE (show (xA (c t)).length=n by simp [xA,hn]),cond_true];exact a
  ·have h2:=h1 t;unfold lC at h2 ⊢
   cases h3:dJ (xA (c t)) with
   | false=>rw [h3] at h2;cases h2
   | true=>rw [cond_true];exact b
theorem Qe {α:Type} {c:α->List PV} {n m:Nat} (hn:∀ t,(c t).length=n) (h1:∀ t,lC [xA (c t)]=true) (h0:0<n) (g:List α) (h:g.length * m<=140737488355328) (hg:g.length<=maxLen) :
  (Nat.blt 0 n && gC n (vA (g.map c)) && lC (vA (g.map c)) && Nat.ble (vA (g.map c)).length maxLen && Nat.ble ((vA (g.map c)).length * m) 140737488355328)=true:=by
 obtain⟨a,b⟩:=pX hn h1 g;have h3:Nat.blt 0 n=true:=by rw [OG];simpa using h0
 rw [h3,a,b,pvE_len,List.length_map,Nat.ble_eq_true_of_le hg,Nat.ble_eq_true_of_le h];rfl
theorem br {A B:List (List PV)} : List.take ((vA A).length+(vA B).length) (A++B)=A++B:=List.take_of_length_le (by simp [pvE_len])
theorem Re (A B:List (List PV)):List.take (vA A).length (vA A)++vA B=vA (A++B):=by
 rw [List.take_length];simp [vA]
theorem xD (g l:List Ty) (h:g.length+l.length<=qA):A 28 [AA g,AA l] (AA (g++l)):=by
 have hm:=zA;have g1:=Qe (c:=Ty.c) (n:=2) (m:=32) Ty.c_len (λ _=>rfl) (by decide) g (by omega) (by simp only [maxLen];omega);obtain⟨s1,s2⟩:=pX (c:=Ty.c) (n:=2) Ty.c_len (λ _=>rfl) l;have g2:(Nat.beq 1 1 && Nat.ble (vA (g.map Ty.c)).length (vA (g.map Ty.c)).length && Nat.beq 34 34 && Nat.beq 2 2 && Nat.blt 0 2 && gC 2 (vA (l.map Ty.c)) && lC (vA (l.map Ty.c)) && Nat.ble ((vA (g.map Ty.c)).length+(vA (l.map Ty.c)).length) maxLen && Nat.ble (((vA (g.map Ty.c)).length+(vA (l.map Ty.c)).length) * 32) 140737488355328)=true :=
  dP rfl (by decide) s1 s2 (by rw [pvE_len,pvE_len];simp only [List.length_map,maxLen];omega) (by rw [pvE_len,pvE_len];simp only [List.length_map];omega)
 have g3:A 28 [AA g,AA l] (.slice (List.take ((vA (g.map Ty.c)).length+(vA (l.map Ty.c)).length) (g.map Ty.c++l.map Ty.c))) :=
  f3 [(6,.ok),(8,.ok),(300001,.f 0 (g.map Ty.c++l.map Ty.c))] g1 g2 (Re (g.map Ty.c) (l.map Ty.c))
 rw [br,<- List.map_append] at g3;exact g3
abbrev rX:Kp:=⟨[0,3,5,8,9],[0,1],2,[]⟩
theorem sX {g:List Ty} {k:Nat} (hk:k<g.length) (hg:g.length<=qA):∃ s,(aA (Int.ofNat (g.map Ty.c).length-1)=true/\Int.ofNat (g.map Ty.c).length-1 = .ofNat ((g.map Ty.c).length-1))/\(aA (Int.ofNat ((g.map Ty.c).length-1) - .ofNat k)=true/\Int.ofNat ((g.map Ty.c).length-1) - .ofNat k = .ofNat (g.length-1-k))/\(PB (g.map Ty.c) (g.length-1-k)=some (Ty.c s)/\yC 2 (g.map Ty.c)=true)/\s∈g/\cB g k = .ok s:=by
 have hm:=zA;have hb:=kA;obtain⟨s,hs⟩:∃ s,g[g.length-1-k]? = some s:=⟨_,List.getElem?_eq_getElem (by omega)⟩;refine⟨s,uB (a:=(g.map Ty.c).length) (by simp;omega) (by simp;omega),?_,kB hs Ty.c_len,List.mem_of_getElem? hs,by unfold cB;rw [if_pos hk,hs]⟩;have e:Int.ofNat ((g.map Ty.c).length-1) - .ofNat k = .ofNat (g.length-1-k):=by simp;omega
 exact⟨by rw [e];exact rA (by omega),e⟩
theorem tX (t:Ty) {g:List Ty} (hg:g.length<=qA):∀ (r k v:Nat) (A:List (List PV)),k+r=g.length->A.length<=k ->
  ∃ (v':Nat) (l:List Nat),(∀ x∈l,cB g x = .ok t)/\l.length<=r/\Lp 23 0 0 (st [(0,.pv (AA g)),(3,.loc 0 0),(5,.arr 1 v A.length),(8,.pv (num (g.map Ty.c).length)),(9,.pv (num k))] [(0,bx t.c),(1,.arr v 1 3 (vA A))] 2 []) (.exit 0) (st [(5,.arr 1 v' (A.length+l.length))] [(1,.arr v' 1 3 (vA (A++l.map ic)))] 2 [])
 | 0,k,v,A,h,hA=>by
  have e:uA (.ofNat k) (.ofNat (g.map Ty.c).length)=false:=JA (by simp;omega);refine⟨v,[],by simp,Nat.le_refl _,?_⟩;simp only [List.map_nil,List.append_nil,List.length_nil,Nat.add_zero];exact y1 [(10,.H)] ⟨[5],[1],2,[]⟩ e (QC A)
 | r+1,k,v,A,h,hA=>by
  have hm:=zA;have hb:=kA;have e:uA (.ofNat k) (.ofNat (g.map Ty.c).length)=true:=cA (by simp;omega);obtain⟨s,g1,g2,g3,_,hv⟩:=sX (g:=g) (k:=k) (by omega) hg;have g4:=GD s t;have g6:=iA (a:=k) (b:=1) (by omega);cases hs:s.same t<;>rw [hs] at g4
  ·obtain⟨v',l,q1,q2,ih⟩:=tX t hg r (k+1) v A (by omega) (by omega);exact⟨v',l,q1,by omega,n8 [(10,.G),(15,.z ((g.map Ty.c).length-1)),(17,.z (g.length-1-k)),(18,.i s.c),(21,.F),(26,.z (k+1))] rX e g1 g2 g3 g4 g6 (QC A) ih⟩
  ·have g5:=GL (A:=A) (v:=v) (ty:=3) (m:=8) (c:=ic k) (show 0<1 by decide) rfl rfl (by simp only [maxLen];omega) (by omega);obtain⟨v',l,q1,q2,ih⟩:=tX t hg r (k+1) (v+1) (A++[ic k]) (by omega) (by simp;omega);rw [xI,show (A++[ic k]).length=A.length+1 by simp,show A.length+1+l.length=A.length+(k::l).length by simp;omega,List.append_assoc] at ih;exact⟨v',k::l,λ x hx=>by
    rcases List.mem_cons.1 hx with rfl|hx
    ·rw [hv,(HD s t).1 hs]
    ·exact q1 x hx,by simp;omega,n9 [(10,.G),(15,.z ((g.map Ty.c).length-1)),(17,.z (g.length-1-k)),(18,.i s.c),(21,.T),(25,.ok),(26,.z (k+1))] rX e g1 g2 g3 g4 g5 g6 (DF A (ic k)) ih⟩
theorem Se (t:Ty) {g:List Ty} (hg:g.length<=qA):∀ (r k:Nat),k+r=g.length ->
  Lp 23 0 0 (st [(0,.pv (AA g)),(3,.loc 0 0),(5,.pv .nils),(8,.pv (num (g.map Ty.c).length)),(9,.pv (num k))] [(0,bx t.c)] 1 []) (.exit 0) (st [(5,.pv .nils)] [] 2 []) \/
  ∃ l:List Nat,(∀ x∈l,cB g x = .ok t)/\1<=l.length/\l.length<=r/\Lp 23 0 0 (st [(0,.pv (AA g)),(3,.loc 0 0),(5,.pv .nils),(8,.pv (num (g.map Ty.c).length)),(9,.pv (num k))] [(0,bx t.c)] 1 []) (.exit 0) (st [(5,.pv (dA l))] [] 2 [])
 | 0,k,h=>by
  have e:uA (.ofNat k) (.ofNat (g.map Ty.c).length)=false:=JA (by simp;omega);exact .inl (x1 [(10,.H)] ⟨[5],[],2,[]⟩ e)
 | r+1,k,h=>by
  have hm:=zA;have hb:=kA;have e:uA (.ofNat k) (.ofNat (g.map Ty.c).length)=true:=cA (by simp;omega);obtain⟨s,g1,g2,g3,_,hv⟩:=sX (g:=g) (k:=k) (by omega) hg;have g4:=GD s t;have g6:=iA (a:=k) (b:=1) (by omega);cases hs:s.same t<;>rw [hs] at g4
  ·rcases Se t hg r (k+1) (by omega) with ih|⟨l,q1,q2,q3,ih⟩
   ·exact .inl (n7 [(10,.G),(15,.z ((g.map Ty.c).length-1)),(17,.z (g.length-1-k)),(18,.i s.c),(21,.F),(26,.z (k+1))] ⟨[0,3,5,8,9],[0],1,[]⟩ e g1 g2 g3 g4 g6 ih)
   ·exact .inr ⟨l,q1,q2,by omega,n7 [(10,.G),(15,.z ((g.map Ty.c).length-1)),(17,.z (g.length-1-k)),(18,.i s.c),(21,.F),(26,.z (k+1))] ⟨[0,3,5,8,9],[0],1,[]⟩ e g1 g2 g3 g4 g6 ih⟩
  ·right;by_cases hk0:k=0\/1<=k
   ·obtain⟨v,l,q1,q2,ih⟩:=tX t hg r (k+1) 1 [ic k] (by omega) (by simp);have h2:=LoopIs.fz (by simp) ih 1 (ver:=v) (sz:=1) (ty:=3) (ps:=(k::l).map ic) rfl (by kernel_rfl);simp (decide:=true) only [rE,FD,cC,ZB,BC,bx,List.map,tD,and_self,↓reduceIte,List.take_of_length_le (show (ic k::l.map ic).length<=[ic k].length+l.length by simp;omega)] at h2;refine⟨k::l,λ x hx => ?_,by simp,by simp;omega,n8 [(10,.G),(15,.z ((g.map Ty.c).length-1)),(17,.z (g.length-1-k)),(18,.i s.c),(21,.T),(26,.z (k+1))] rX e g1 g2 g3 g4 g6 (DF [] (ic k)) h2⟩;rcases List.mem_cons.1 hx with rfl|hx
    ·rw [hv,(HD s t).1 hs]
    ·exact q1 x hx
   ·omega
theorem dr (g:List Ty) (t:Ty) (hg:g.length<=qA):∃ l:List Nat,(∀ x∈l,cB g x = .ok t)/\l.length<=g.length/\A 23 [AA g,t.p] (dA l):=by
 rcases Se t hg g.length 0 (by omega) with h|⟨l,q1,q2,q3,h⟩
 ·exact⟨[],by simp,by simp,f1 [(100003,.l ⟨[0,3,5,8,9],[0],1,[]⟩ (.exit 0) (st [(5,.pv .nils)] [] 2 []))] h⟩
 ·exact⟨l,q1,q3,f1 [(100003,.l ⟨[0,3,5,8,9],[0],1,[]⟩ (.exit 0) (st [(5,.pv (dA l))] [] 2 []))] h⟩
theorem aX (g:List Ty) (hs:List Fm) (f:Fm) (h:hs.length<=1000000):A 57 [ZA g hs,f.p] (ZA g (hs++[f])):=by
 have hm:=zA;have g1:=Qe (c:=Fm.c) (n:=5) (m:=88) Fm.c_len (λ _=>rfl) (by decide) hs (by omega) (by simp only [maxLen];omega);have g2:(Nat.beq 1 1 && Nat.ble (vA (hs.map Fm.c)).length (vA (hs.map Fm.c)).length && Nat.beq 40 40 && Nat.beq 5 5 && Nat.blt 0 5 && gC 5 [xA f.c] && lC [xA f.c] && Nat.ble ((vA (hs.map Fm.c)).length+[xA f.c].length) maxLen && Nat.ble (((vA (hs.map Fm.c)).length+[xA f.c].length) * 88) 140737488355328)=true :=
  dP rfl (by decide) rfl rfl (by rw [pvE_len];simp only [List.length_map,maxLen,List.length_singleton];omega) (by rw [pvE_len];simp only [List.length_map,List.length_singleton];omega)
 have g3:A 57 [ZA g hs,f.p] (.agg [AA g,.slice (List.take ((vA (hs.map Fm.c)).length+[xA f.c].length) (hs.map Fm.c++[f.c]))]) :=
  f3 [(9,.ok),(12,.ok),(300001,.f 3 (hs.map Fm.c++[f.c]))] g1 g2 (Re (hs.map Fm.c) [f.c])
 rw [List.take_of_length_le (by rw [pvE_len];simp)] at g3;rw [show ZA g (hs++[f]) = .agg [AA g,.slice (hs.map Fm.c++[f.c])] by simp [ZA,fA]];exact g3
theorem eT (t:Tm) (h:t.cnt<=1000000) (h':t.mx<=qA * qA):A 63 [t.p] (t.sh 0 1).p:=by
 have hm:=zA;have g1:=gD (.eq t t) 0 1 (by omega) (by omega) (by simp only [Fm.mx];omega) (by simp only [Fm.cnt];omega);exact f2 [(5,.r (Fm.eq t t).p),(6,.r ((Fm.eq t t).sh 0 1).p)] (PE t t) g1
end Go.Proofs.YtnkoaepelgbhfaaGreatDoor
