/- Contracts of functions; no conditions. -/
import Derived.Test.YtmkajedkflhbgaaGreatDoorIC6
import Derived.Test.YtmkajedkflhbgaaGreatDoorIC4
set_option linter.all false
set_option maxHeartbeats 4000000
namespace Go.Proofs.YtmkajedkflhbgaaGreatDoor
open Go.Lg
set_option maxRecDepth 100000
abbrev zB (tl:List Tm):PV:=.agg [row tl]
abbrev tyR (r:TR) (b:Bool):PV:=.tuple [.agg [num r.k,.slice r.l],.bool b,num r.n]
abbrev dB (tl:List Tm) (hs:List Fm) (a:Jt) (F:Fm) (s:Sc) (r:XR):Prop:=A 37 [zB tl,a.pf hs F,s.p] r.p
variable {tl:List Tm} {hs:List Fm} {s:Sc}
theorem Cr {a b:Jt} {x y:Fm} {ra rb:XR} (hx:x.has=true) (hy:y.has=true) (ga:dB tl hs a x s ra) (gb:dB tl hs b y s rb) (ca:ra.cn<=4096) (cb:rb.cn<=4096):A 37 [zB tl,MA (Pf.p2 .andI a.p b.p) (Fm.bin .and x y) hs [[a.pf hs x],[b.pf hs y]],s.p] (XR.two .pair ra rb).p:=by
 cases ra with
 | er x n=>exact f3 [(71,.G),(81,.G),(87,.n [(13,.n [(15,.r (XR.er x n).p)])])] hx hy ga
 | ok t=>cases rb with
  | er x n=>exact f4 [(71,.G),(81,.G),(87,.n [(13,.n [(15,.r (XR.ok t).p)]),(22,.n [(15,.r (XR.er x n).p)])])] hx hy ga gb
  | ok u =>
   have c1:t.cnt<=4096:=ca;have c2:u.cnt<=4096:=cb;have hm:=jA;exact f5 [(71,.G),(81,.G),(87,.n [(13,.n [(15,.r (XR.ok t).p)]),(22,.n [(15,.r (XR.ok u).p)]),(34,.r (XR.fit (.n2 .pair t u)).p)])] hx hy ga gb (AK .pair t u)
theorem Dr {a b:Jt} {x y:Fm} {ra:XR} (hx:x.has=true) (hy:y.has=false) (ga:dB tl hs a x s ra):A 37 [zB tl,MA (Pf.p2 .andI a.p b.p) (Fm.bin .and x y) hs [[a.pf hs x],[b.pf hs y]],s.p] ra.p:=by
 exact f4 [(71,.G),(81,.H),(99,.G),(108,.r ra.p)] hx hy hx ga
theorem Er {a b:Jt} {x y:Fm} {rb:XR} (hx:x.has=false) (gb:dB tl hs b y s rb):A 37 [zB tl,MA (Pf.p2 .andI a.p b.p) (Fm.bin .and x y) hs [[a.pf hs x],[b.pf hs y]],s.p] rb.p:=by
 exact f3 [(71,.H),(99,.H),(119,.r rb.p)] hx hx gb
theorem Fr {a:Jt} {f y:Fm} {ra:XR} {t0 t1:TR} (ga:dB tl hs a (.bin .and f y) s ra) (g0:A 93 [f.p] (tyR t0 true)) (g1:A 93 [y.p] (tyR t1 true)) (ca:ra.cn<=4096):A 37 [zB tl,MA (Pf.p1 .andL a.p) f hs [[a.pf hs (.bin .and f y)]],s.p] (XR.one .fst ra).p:=by
 cases ra with
 | er x n=>exact f3 [(134,.r (XR.er x n).p),(150,.r (tyR t0 true)),(167,.r (tyR t1 true))] ga g0 g1
 | ok t =>
  have c1:t.cnt<=4096:=ca;have hm:=jA;exact f4 [(134,.r (XR.ok t).p),(150,.r (tyR t0 true)),(167,.r (tyR t1 true)),(193,.r (XR.fit (.n1 .fst t)).p)] ga g0 g1 (Ef .fst t)
theorem Gr {a:Jt} {f y:Fm} {ra:XR} {t0 t1:TR} (ga:dB tl hs a (.bin .and f y) s ra) (g0:A 93 [f.p] (tyR t0 true)) (g1:A 93 [y.p] (tyR t1 false)) (ca:ra.cn<=4096):A 37 [zB tl,MA (Pf.p1 .andL a.p) f hs [[a.pf hs (.bin .and f y)]],s.p] ra.p:=by
 cases ra with
 | er x n=>exact f3 [(134,.r (XR.er x n).p),(150,.r (tyR t0 true)),(167,.r (tyR t1 false))] ga g0 g1
 | ok t=>exact f3 [(134,.r (XR.ok t).p),(150,.r (tyR t0 true)),(167,.r (tyR t1 false))] ga g0 g1
theorem Hr {a:Jt} {f y:Fm} {ra:XR} {t0 t1:TR} (ga:dB tl hs a (.bin .and y f) s ra) (g0:A 93 [y.p] (tyR t0 true)) (g1:A 93 [f.p] (tyR t1 true)) (ca:ra.cn<=4096):A 37 [zB tl,MA (Pf.p1 .andR a.p) f hs [[a.pf hs (.bin .and y f)]],s.p] (XR.one .snd ra).p:=by
 cases ra with
 | er x n=>exact f3 [(134,.r (XR.er x n).p),(150,.r (tyR t0 true)),(167,.r (tyR t1 true))] ga g0 g1
 | ok t =>
  have c1:t.cnt<=4096:=ca;have hm:=jA;exact f4 [(134,.r (XR.ok t).p),(150,.r (tyR t0 true)),(167,.r (tyR t1 true)),(193,.r (XR.fit (.n1 .snd t)).p)] ga g0 g1 (Ef .snd t)
theorem Ir {a:Jt} {f y:Fm} {ra:XR} {t0 t1:TR} (ga:dB tl hs a (.bin .and y f) s ra) (g0:A 93 [y.p] (tyR t0 false)) (g1:A 93 [f.p] (tyR t1 true)) (ca:ra.cn<=4096):A 37 [zB tl,MA (Pf.p1 .andR a.p) f hs [[a.pf hs (.bin .and y f)]],s.p] ra.p:=by
 cases ra with
 | er x n=>exact f3 [(134,.r (XR.er x n).p),(150,.r (tyR t0 false)),(167,.r (tyR t1 true))] ga g0 g1
 | ok t=>exact f3 [(134,.r (XR.ok t).p),(150,.r (tyR t0 false)),(167,.r (tyR t1 true))] ga g0 g1
theorem Jr {a:Jt} {x y:Fm} {n:Nat} {b:Bool} (g:A 93 [x.p] (tyR (.er n) b)):A 37 [zB tl,MA (Pf.impI x a.p) (Fm.bin .imp x y) hs [[a.pf (hs++[x]) y]],s.p] (XR.er .z n).p:=by
 exact f1 [(206,.r (tyR (.er n) b))] g
theorem Kr {a:Jt} {x y:Fm} {u:Ty} {ra:XR} (g:A 93 [x.p] (tyR (.ok u) false)) (gs:A 40 [s.p] s.bare.p) (ga:dB tl (hs++[x]) a y s.bare ra):A 37 [zB tl,MA (Pf.impI x a.p) (Fm.bin .imp x y) hs [[a.pf (hs++[x]) y]],s.p] ra.p:=by
 exact f3 [(206,.r (tyR (.ok u) false)),(224,.r s.bare.p),(225,.r ra.p)] g gs ga
theorem Lr {a:Jt} {x y:Fm} {u:Ty} {ra:XR} (g:A 93 [x.p] (tyR (.ok u) true)) (gs:A 95 [s.p] s.bind.p) (gh:A 41 [s.bind.p,(Tm.v 0).p] (s.bind.hyp (.v 0)).p) (ga:dB tl (hs++[x]) a y (s.bind.hyp (.v 0)) ra) (ca:ra.cn<=4096):A 37 [zB tl,MA (Pf.impI x a.p) (Fm.bin .imp x y) hs [[a.pf (hs++[x]) y]],s.p] (ra.lam u).p:=by
 exact f6 [(206,.r (tyR (.ok u) true)),(237,.r s.bind.p),(238,.r (Tm.v 0).p),(239,.r (s.bind.hyp (.v 0)).p),(240,.r ra.p),(246,.r (ra.lam u).p)] g gs (GB 0) gh ga (SH u ra ca)
theorem Mr {a b:Jt} {x y f:Fm} {ra:XR} (hy:y.has=false) (ga:dB tl hs a (.bin .imp x f) s ra):A 37 [zB tl,MA (Pf.p2 .impE a.p b.p) f hs [[a.pf hs (.bin .imp x f)],[b.pf hs y]],s.p] ra.p:=by
 exact f2 [(259,.H),(269,.r ra.p)] hy ga
theorem Nr {a b:Jt} {x y f:Fm} {ra rb:XR} (hy:y.has=true) (ga:dB tl hs a (.bin .imp x f) s ra) (gb:dB tl hs b y s rb) (ca:ra.cn<=4096) (cb:rb.cn<=4096):A 37 [zB tl,MA (Pf.p2 .impE a.p b.p) f hs [[a.pf hs (.bin .imp x f)],[b.pf hs y]],s.p] (XR.two .app ra rb).p:=by
 cases ra with
 | er x n=>exact f2 [(259,.G),(276,.n [(13,.n [(15,.r (XR.er x n).p)])])] hy ga
 | ok t=>cases rb with
  | er x n=>exact f3 [(259,.G),(276,.n [(13,.n [(15,.r (XR.ok t).p)]),(22,.n [(15,.r (XR.er x n).p)])])] hy ga gb
  | ok u =>
   have c1:t.cnt<=4096:=ca;have c2:u.cnt<=4096:=cb;have hm:=jA;exact f4 [(259,.G),(276,.n [(13,.n [(15,.r (XR.ok t).p)]),(22,.n [(15,.r (XR.ok u).p)]),(34,.r (XR.fit (.n2 .app t u)).p)])] hy ga gb (AK .app t u)
theorem Kf {u:Ty} {a:Jt} {y:Fm} {ra:XR} (gs:A 95 [s.p] s.bind.p) (gv:A 165 [s.bind.p,(Tm.v 0).p] (s.bind.var (.v 0)).p) (ga:dB tl (lA 1 hs) a y (s.bind.var (.v 0)) ra) (ca:ra.cn<=4096):A 37 [zB tl,MA (Pf.all false u a.p) (Fm.q .all u y) hs [[a.pf (lA 1 hs) y]],s.p] (ra.lam u).p:=by
 exact f5 [(282,.n [(36,.r s.bind.p),(37,.r (Tm.v 0).p),(38,.r (s.bind.var (.v 0)).p),(39,.r ra.p),(49,.r (ra.lam u).p)])] gs (GB 0) gv ga (SH u ra ca)
theorem Pr {u:Ty} {a:Jt} {y:Fm} {ra:XR} (gv:A 165 [s.p,u.ini.p] (s.var u.ini).p) (ga:dB tl (lA 1 hs) a y (s.var u.ini) ra):A 37 [zB tl,MA (Pf.all true u a.p) (Fm.q .allU u y) hs [[a.pf (lA 1 hs) y]],s.p] ra.p:=by
 exact f3 [(282,.n [(105,.r u.ini.p),(106,.r (s.var u.ini).p),(107,.r ra.p)])] (BK u) gv ga
theorem Qr {a:Jt} {w:Tm} {u:Ty} {x f:Fm} {ra rp:XR} (ga:dB tl hs a (.q .all u x) s ra) (gp:A 164 [s.p,w.p] rp.p) (ca:ra.cn<=4096) (cb:rp.cn<=4096):A 37 [zB tl,MA (Pf.ins false w a.p) f hs [[a.pf hs (.q .all u x)]],s.p] (XR.two .app ra rp).p:=by
 cases ra with
 | er x n=>exact f1 [(282,.n [(57,.n [(13,.n [(15,.r (XR.er x n).p)])])])] ga
 | ok t=>cases rp with
  | er x n=>exact f2 [(282,.n [(57,.n [(13,.n [(15,.r (XR.ok t).p)]),(22,.n [(12,.r (XR.er x n).p)])])])] ga gp
  | ok u =>
   have c1:t.cnt<=4096:=ca;have c2:u.cnt<=4096:=cb;have hm:=jA;exact f3 [(282,.n [(57,.n [(13,.n [(15,.r (XR.ok t).p)]),(22,.n [(12,.r (XR.ok u).p)]),(34,.r (XR.fit (.n2 .app t u)).p)])])] ga gp (AK .app t u)
theorem Rr {a:Jt} {w:Tm} {u:Ty} {x f:Fm} {ra:XR} (ga:dB tl hs a (.q .allU u x) s ra):A 37 [zB tl,MA (Pf.ins true w a.p) f hs [[a.pf hs (.q .allU u x)]],s.p] ra.p:=by
 exact f1 [(282,.n [(128,.r ra.p)])] ga
theorem Mf {a:Jt} {w:Tm} {x y:Fm} {rp:XR} (hy:y.has=false) (gp:A 164 [s.p,w.p] rp.p):A 37 [zB tl,MA (Pf.ex false x w a.p) x hs [[a.pf hs y]],s.p] rp.p:=by
 exact f2 [(282,.n [(70,.H),(73,.n [(12,.r rp.p)])])] hy gp
theorem Sr {a:Jt} {w:Tm} {x y:Fm} {ra rp:XR} (hy:y.has=true) (ga:dB tl hs a y s ra) (gp:A 164 [s.p,w.p] rp.p) (ca:ra.cn<=4096) (cb:rp.cn<=4096):A 37 [zB tl,MA (Pf.ex false x w a.p) x hs [[a.pf hs y]],s.p] (XR.two .pair rp ra).p:=by
 cases rp with
 | er x n=>exact f2 [(282,.n [(70,.G),(79,.n [(13,.n [(12,.r (XR.er x n).p)])])])] hy gp
 | ok t=>cases ra with
  | er x n=>exact f3 [(282,.n [(70,.G),(79,.n [(13,.n [(12,.r (XR.ok t).p)]),(22,.n [(15,.r (XR.er x n).p)])])])] hy gp ga
  | ok u =>
   have c1:t.cnt<=4096:=cb;have c2:u.cnt<=4096:=ca;have hm:=jA;exact f4 [(282,.n [(70,.G),(79,.n [(13,.n [(12,.r (XR.ok t).p)]),(22,.n [(15,.r (XR.ok u).p)]),(34,.r (XR.fit (.n2 .pair t u)).p)])])] hy gp ga (AK .pair t u)
theorem Ur {a:Jt} {w:Tm} {x y:Fm} {ra:XR} (ga:dB tl hs a y s ra):A 37 [zB tl,MA (Pf.ex true x w a.p) x hs [[a.pf hs y]],s.p] ra.p:=by
 exact f1 [(282,.n [(128,.r ra.p)])] ga
theorem Vr {a b:Jt} {x y z f:Fm} {rb:XR} (gb:dB tl hs b y s rb):A 37 [zB tl,MA (Pf.subst x a.p b.p) f hs [[a.pf hs z],[b.pf hs y]],s.p] rb.p:=by
 exact f1 [(282,.n [(128,.r rb.p)])] gb
theorem Wr {a b:Jt} {u:Ty} {x y f:Fm} {n:Nat} {c:Bool} (g:A 93 [x.p] (tyR (.er n) c)):A 37 [zB tl,MA (Pf.p2 .exE a.p b.p) f hs [[a.pf hs (.q .ex u x)],[b.pf (lA 1 hs++[x]) y]],s.p] (XR.er .z n).p:=by
 exact f1 [(282,.n [(87,.n [(29,.r (tyR (.er n) c))])])] g
theorem Xr {a b:Jt} {u w:Ty} {x y f:Fm} {n:Nat} (g:A 93 [x.p] (tyR (.ok w) true)) (gs:A 95 [s.p] s.bind.p) (gp:A 243 [u.p,w.p] (TR.er n).p):A 37 [zB tl,MA (Pf.p2 .exE a.p b.p) f hs [[a.pf hs (.q .ex u x)],[b.pf (lA 1 hs++[x]) y]],s.p] (XR.er .z n).p:=by
 exact f3 [(282,.n [(87,.n [(29,.r (tyR (.ok w) true)),(40,.r s.bind.p),(46,.r (TR.er n).p)])])] g gs gp
theorem Yr {a b:Jt} {u w:Ty} {x y f:Fm} {ra rb:XR} (g:A 93 [x.p] (tyR (.ok w) true)) (gs:A 95 [s.p] s.bind.p) (gp:A 243 [u.p,w.p] (TR.ok (.two false u w)).p) (gv:A 165 [s.bind.p,(Tm.n1 .fst (.v 0)).p] (s.bind.var (.n1 .fst (.v 0))).p) (gh:A 41 [(s.bind.var (.n1 .fst (.v 0))).p,(Tm.n1 .snd (.v 0)).p] ((s.bind.var (.n1 .fst (.v 0))).hyp (.n1 .snd (.v 0))).p) (gb:dB tl (lA 1 hs++[x]) b y ((s.bind.var (.n1 .fst (.v 0))).hyp (.n1 .snd (.v 0))) rb) (cb:rb.cn<=4096) (ga:dB tl hs a (.q .ex u x) s ra) (ca:ra.cn<=4096):A 37 [zB tl,MA (Pf.p2 .exE a.p b.p) f hs [[a.pf hs (.q .ex u x)],[b.pf (lA 1 hs++[x]) y]],s.p] (XR.two .app (rb.lam (.two false u w)) ra).p:=by
 have gl:=SH (.two false u w) rb cb;have cl:=CK (.two false u w) rb;generalize rb.lam (.two false u w)=rl at gl cl ⊢
 cases rl with
 | er x n=>exact f9 [(282,.n [(87,.n [(29,.r (tyR (.ok w) true)),(40,.r s.bind.p),(46,.r (TR.ok (.two false u w)).p),(54,.r (Tm.v 0).p),(57,.r (s.bind.var (.n1 .fst (.v 0))).p),(58,.r (Tm.v 0).p),(61,.r ((s.bind.var (.n1 .fst (.v 0))).hyp (.n1 .snd (.v 0))).p),(75,.r rb.p),(82,.r (XR.er x n).p)])])] g gs gp (GB 0) gv (GB 0) gh gb gl
 | ok t=>cases ra with
  | er x n=>exact f10 [(282,.n [(87,.n [(29,.r (tyR (.ok w) true)),(40,.r s.bind.p),(46,.r (TR.ok (.two false u w)).p),(54,.r (Tm.v 0).p),(57,.r (s.bind.var (.n1 .fst (.v 0))).p),(58,.r (Tm.v 0).p),(61,.r ((s.bind.var (.n1 .fst (.v 0))).hyp (.n1 .snd (.v 0))).p),(75,.r rb.p),(82,.r (XR.ok t).p),(87,.n [(22,.n [(13,.r (XR.er x n).p)])])])])] g gs gp (GB 0) gv (GB 0) gh gb gl ga
  | ok v =>
   have c1:t.cnt<=4096:=cl;have c2:v.cnt<=4096:=ca;have hm:=jA;exact f11 [(282,.n [(87,.n [(29,.r (tyR (.ok w) true)),(40,.r s.bind.p),(46,.r (TR.ok (.two false u w)).p),(54,.r (Tm.v 0).p),(57,.r (s.bind.var (.n1 .fst (.v 0))).p),(58,.r (Tm.v 0).p),(61,.r ((s.bind.var (.n1 .fst (.v 0))).hyp (.n1 .snd (.v 0))).p),(75,.r rb.p),(82,.r (XR.ok t).p),(87,.n [(22,.n [(13,.r (XR.ok v).p)]),(34,.r (XR.fit (.n2 .app t v)).p)])])])] g gs gp (GB 0) gv (GB 0) gh gb gl ga (AK .app t v)
theorem Zr {a b:Jt} {u w:Ty} {x y f:Fm} {ra rb:XR} (g:A 93 [x.p] (tyR (.ok w) false)) (gs:A 95 [s.p] s.bind.p) (gv:A 165 [s.bind.p,(Tm.v 0).p] (s.bind.var (.v 0)).p) (gh:A 40 [(s.bind.var (.v 0)).p] (s.bind.var (.v 0)).bare.p) (gb:dB tl (lA 1 hs++[x]) b y (s.bind.var (.v 0)).bare rb) (cb:rb.cn<=4096) (ga:dB tl hs a (.q .ex u x) s ra) (ca:ra.cn<=4096):A 37 [zB tl,MA (Pf.p2 .exE a.p b.p) f hs [[a.pf hs (.q .ex u x)],[b.pf (lA 1 hs++[x]) y]],s.p] (XR.two .app (rb.lam u) ra).p:=by
 have gl:=SH u rb cb;have cl:=CK u rb;generalize rb.lam u=rl at gl cl ⊢
 cases rl with
 | er x n=>exact f7 [(282,.n [(87,.n [(29,.r (tyR (.ok w) false)),(40,.r s.bind.p),(63,.r (Tm.v 0).p),(64,.r (s.bind.var (.v 0)).p),(65,.r (s.bind.var (.v 0)).bare.p),(75,.r rb.p),(82,.r (XR.er x n).p)])])] g gs (GB 0) gv gh gb gl
 | ok t=>cases ra with
  | er x n=>exact f8 [(282,.n [(87,.n [(29,.r (tyR (.ok w) false)),(40,.r s.bind.p),(63,.r (Tm.v 0).p),(64,.r (s.bind.var (.v 0)).p),(65,.r (s.bind.var (.v 0)).bare.p),(75,.r rb.p),(82,.r (XR.ok t).p),(87,.n [(22,.n [(13,.r (XR.er x n).p)])])])])] g gs (GB 0) gv gh gb gl ga
  | ok v =>
   have c1:t.cnt<=4096:=cl;have c2:v.cnt<=4096:=ca;have hm:=jA;exact f9 [(282,.n [(87,.n [(29,.r (tyR (.ok w) false)),(40,.r s.bind.p),(63,.r (Tm.v 0).p),(64,.r (s.bind.var (.v 0)).p),(65,.r (s.bind.var (.v 0)).bare.p),(75,.r rb.p),(82,.r (XR.ok t).p),(87,.n [(22,.n [(13,.r (XR.ok v).p)]),(34,.r (XR.fit (.n2 .app t v)).p)])])])] g gs (GB 0) gv gh gb gl ga (AK .app t v)
theorem js {a b:Jt} {u:Ty} {x y f:Fm} {n:Nat} {c:Bool} (g:A 93 [x.p] (tyR (.er n) c)):A 37 [zB tl,MA (Pf.p2 .exUE a.p b.p) f hs [[a.pf hs (.q .exU u x)],[b.pf (lA 1 hs++[x]) y]],s.p] (XR.er .z n).p:=by
 exact f1 [(282,.n [(146,.r (tyR (.er n) c))])] g
theorem ws {a b:Jt} {u w:Ty} {x y f:Fm} {rb:XR} (g:A 93 [x.p] (tyR (.ok w) false)) (gv:A 165 [s.p,u.ini.p] (s.var u.ini).p) (gh:A 40 [(s.var u.ini).p] (s.var u.ini).bare.p) (gb:dB tl (lA 1 hs++[x]) b y (s.var u.ini).bare rb):A 37 [zB tl,MA (Pf.p2 .exUE a.p b.p) f hs [[a.pf hs (.q .exU u x)],[b.pf (lA 1 hs++[x]) y]],s.p] rb.p:=by
 exact f5 [(282,.n [(146,.r (tyR (.ok w) false)),(174,.r u.ini.p),(175,.r (s.var u.ini).p),(176,.r (s.var u.ini).bare.p),(177,.r rb.p)])] g (BK u) gv gh gb
theorem ss {a b:Jt} {u w:Ty} {x y f:Fm} {ra rb:XR} (g:A 93 [x.p] (tyR (.ok w) true)) (gs:A 95 [s.p] s.bind.p) (gv:A 165 [s.bind.p,u.ini.p] (s.bind.var u.ini).p) (gh:A 41 [(s.bind.var u.ini).p,(Tm.v 0).p] ((s.bind.var u.ini).hyp (.v 0)).p) (gb:dB tl (lA 1 hs++[x]) b y ((s.bind.var u.ini).hyp (.v 0)) rb) (cb:rb.cn<=4096) (ga:dB tl hs a (.q .exU u x) s ra) (ca:ra.cn<=4096):A 37 [zB tl,MA (Pf.p2 .exUE a.p b.p) f hs [[a.pf hs (.q .exU u x)],[b.pf (lA 1 hs++[x]) y]],s.p] (XR.two .app (rb.lam w) ra).p:=by
 have gl:=SH w rb cb;have cl:=CK w rb;generalize rb.lam w=rl at gl cl ⊢
 cases rl with
 | er x n=>exact f8 [(282,.n [(146,.r (tyR (.ok w) true)),(189,.r s.bind.p),(200,.r u.ini.p),(201,.r (s.bind.var u.ini).p),(202,.r (Tm.v 0).p),(203,.r ((s.bind.var u.ini).hyp (.v 0)).p),(204,.r rb.p),(211,.r (XR.er x n).p)])] g gs (BK u) gv (GB 0) gh gb gl
 | ok t=>cases ra with
  | er x n=>exact f9 [(282,.n [(146,.r (tyR (.ok w) true)),(189,.r s.bind.p),(200,.r u.ini.p),(201,.r (s.bind.var u.ini).p),(202,.r (Tm.v 0).p),(203,.r ((s.bind.var u.ini).hyp (.v 0)).p),(204,.r rb.p),(211,.r (XR.ok t).p),(217,.n [(22,.n [(15,.r (XR.er x n).p)])])])] g gs (BK u) gv (GB 0) gh gb gl ga
  | ok v =>
   have c1:t.cnt<=4096:=cl;have c2:v.cnt<=4096:=ca;have hm:=jA;exact f10 [(282,.n [(146,.r (tyR (.ok w) true)),(189,.r s.bind.p),(200,.r u.ini.p),(201,.r (s.bind.var u.ini).p),(202,.r (Tm.v 0).p),(203,.r ((s.bind.var u.ini).hyp (.v 0)).p),(204,.r rb.p),(211,.r (XR.ok t).p),(217,.n [(22,.n [(15,.r (XR.ok v).p)]),(34,.r (XR.fit (.n2 .app t v)).p)])])] g gs (BK u) gv (GB 0) gh gb gl ga (AK .app t v)
theorem As {a b:Jt} {x y z f:Fm} {w:Tm} {q:Sx} {n:Nat} (gp:A 164 [s.p,w.p] (XR.er q n).p):A 37 [zB tl,MA (Pf.ind false x w a.p b.p) f hs [[a.pf hs y],[b.pf (lA 1 hs++[x]) z]],s.p] (XR.er .z n).p:=by
 exact f1 [(282,.n [(225,.n [(12,.r (XR.er q n).p)])])] gp
theorem Bs {a b:Jt} {x y z f:Fm} {w:Tm} {t:Tm} {n:Nat} {c:Bool} (gp:A 164 [s.p,w.p] (XR.ok t).p) (g:A 93 [x.p] (tyR (.er n) c)):A 37 [zB tl,MA (Pf.ind false x w a.p b.p) f hs [[a.pf hs y],[b.pf (lA 1 hs++[x]) z]],s.p] (XR.er .z n).p:=by
 exact f2 [(282,.n [(225,.n [(12,.r (XR.ok t).p)]),(236,.n [(27,.r (tyR (.er n) c))])])] gp g
theorem Cs {a b:Jt} {x y z f:Fm} {w:Tm} {t:Tm} {u:Ty} {c:Bool} {q:Sx} {n:Nat} (gp:A 164 [s.p,w.p] (XR.ok t).p) (g:A 93 [x.p] (tyR (.ok u) c)) (ga:dB tl hs a y s (.er q n)):A 37 [zB tl,MA (Pf.ind false x w a.p b.p) f hs [[a.pf hs y],[b.pf (lA 1 hs++[x]) z]],s.p] (XR.er .z n).p:=by
 exact f3 [(282,.n [(225,.n [(12,.r (XR.ok t).p)]),(236,.n [(27,.r (tyR (.ok u) c)),(44,.r (XR.er q n).p)])])] gp g ga
theorem Ds {a b:Jt} {x y z f:Fm} {w:Tm} {t v:Tm} {u:Ty} {c:Bool} {rb:XR} (gp:A 164 [s.p,w.p] (XR.ok t).p) (ct:t.cnt<=4096) (g:A 93 [x.p] (tyR (.ok u) c)) (ga:dB tl hs a y s (.ok v)) (cv:v.cnt<=4096) (gs:A 95 [s.p] s.bind.p) (gv:A 165 [s.bind.p,(Tm.v 0).p] (s.bind.var (.v 0)).p) (gs3:A 95 [(s.bind.var (.v 0)).p] (s.bind.var (.v 0)).bind.p) (gh:A 41 [(s.bind.var (.v 0)).bind.p,(Tm.v 0).p] ((s.bind.var (.v 0)).bind.hyp (.v 0)).p) (gb:dB tl (lA 1 hs++[x]) b z ((s.bind.var (.v 0)).bind.hyp (.v 0)) rb) (cb:rb.cn<=4096):A 37 [zB tl,MA (Pf.ind false x w a.p b.p) f hs [[a.pf hs y],[b.pf (lA 1 hs++[x]) z]],s.p] (match ((rb).lam u).lam .nat with | .er _ n=>XR.er .z n | .ok k=>XR.fit (.n3 .re u v k t)).p:=by
 have gl0:=SH u (rb) cb;have gl1:=SH .nat ((rb).lam u) (CK _ _);have cl:=CK .nat (((rb).lam u));generalize ((rb).lam u).lam .nat=rl at gl1 cl ⊢
 cases rl with
 | er q n=>exact f13 [(282,.n [(225,.n [(12,.r (XR.ok t).p)]),(236,.n [(27,.r (tyR (.ok u) c)),(44,.r (XR.ok v).p),(51,.Y),(55,.r s.bind.p),(56,.r (Tm.v 0).p),(57,.r (s.bind.var (.v 0)).p),(81,.r (s.bind.var (.v 0)).bind.p),(82,.r (Tm.v 0).p),(83,.r ((s.bind.var (.v 0)).bind.hyp (.v 0)).p),(84,.r rb.p),(101,.r ((rb).lam u).p),(101,.r (XR.er q n).p)])])] gp g ga EN gs (GB 0) gv gs3 (GB 0) gh gb gl0 gl1
 | ok k =>
  have c1:k.cnt<=4096:=cl;have hm:=jA;exact f14 [(282,.n [(225,.n [(12,.r (XR.ok t).p)]),(236,.n [(27,.r (tyR (.ok u) c)),(44,.r (XR.ok v).p),(51,.Y),(55,.r s.bind.p),(56,.r (Tm.v 0).p),(57,.r (s.bind.var (.v 0)).p),(81,.r (s.bind.var (.v 0)).bind.p),(82,.r (Tm.v 0).p),(83,.r ((s.bind.var (.v 0)).bind.hyp (.v 0)).p),(84,.r rb.p),(101,.r ((rb).lam u).p),(101,.r (XR.ok k).p),(114,.r (XR.fit (.n3 .re u v k t)).p)])])] gp g ga EN gs (GB 0) gv gs3 (GB 0) gh gb gl0 gl1 (Ff .re u v k t)
theorem Es {a b:Jt} {x y z f:Fm} {w:Tm} {q:Sx} {n:Nat} (gp:A 164 [s.p,w.p] (XR.er q n).p):A 37 [zB tl,MA (Pf.ind true x w a.p b.p) f hs [[a.pf hs y],[b.pf (lA 2 hs++[x.sh 1 (.ofNat 1)]) z]],s.p] (XR.er .z n).p:=by
 exact f1 [(282,.n [(225,.n [(12,.r (XR.er q n).p)])])] gp
theorem Fs {a b:Jt} {x y z f:Fm} {w:Tm} {t:Tm} {n:Nat} {c:Bool} (gp:A 164 [s.p,w.p] (XR.ok t).p) (g:A 93 [x.p] (tyR (.er n) c)):A 37 [zB tl,MA (Pf.ind true x w a.p b.p) f hs [[a.pf hs y],[b.pf (lA 2 hs++[x.sh 1 (.ofNat 1)]) z]],s.p] (XR.er .z n).p:=by
 exact f2 [(282,.n [(225,.n [(12,.r (XR.ok t).p)]),(236,.n [(27,.r (tyR (.er n) c))])])] gp g
theorem Gs {a b:Jt} {x y z f:Fm} {w:Tm} {t:Tm} {u:Ty} {c:Bool} {q:Sx} {n:Nat} (gp:A 164 [s.p,w.p] (XR.ok t).p) (g:A 93 [x.p] (tyR (.ok u) c)) (ga:dB tl hs a y s (.er q n)):A 37 [zB tl,MA (Pf.ind true x w a.p b.p) f hs [[a.pf hs y],[b.pf (lA 2 hs++[x.sh 1 (.ofNat 1)]) z]],s.p] (XR.er .z n).p:=by
 exact f3 [(282,.n [(225,.n [(12,.r (XR.ok t).p)]),(236,.n [(27,.r (tyR (.ok u) c)),(44,.r (XR.er q n).p)])])] gp g ga
theorem Hs {a b:Jt} {x y z f:Fm} {w:Tm} {t v:Tm} {u:Ty} {c:Bool} {rb:XR} (gp:A 164 [s.p,w.p] (XR.ok t).p) (ct:t.cnt<=4096) (g:A 93 [x.p] (tyR (.ok u) c)) (ga:dB tl hs a y s (.ok v)) (cv:v.cnt<=4096) (gs:A 95 [s.p] s.bind.p) (gv:A 165 [s.bind.p,(Tm.v 0).p] (s.bind.var (.v 0)).p) (gs2:A 95 [(s.bind.var (.v 0)).p] (s.bind.var (.v 0)).bind.p) (gv2:A 165 [(s.bind.var (.v 0)).bind.p,(Tm.v 0).p] ((s.bind.var (.v 0)).bind.var (.v 0)).p) (gs3:A 95 [((s.bind.var (.v 0)).bind.var (.v 0)).p] ((s.bind.var (.v 0)).bind.var (.v 0)).bind.p) (gh:A 41 [((s.bind.var (.v 0)).bind.var (.v 0)).bind.p,(Tm.v 0).p] (((s.bind.var (.v 0)).bind.var (.v 0)).bind.hyp (.v 0)).p) (gb:dB tl (lA 2 hs++[x.sh 1 (.ofNat 1)]) b z (((s.bind.var (.v 0)).bind.var (.v 0)).bind.hyp (.v 0)) rb) (cb:rb.cn<=4096):A 37 [zB tl,MA (Pf.ind true x w a.p b.p) f hs [[a.pf hs y],[b.pf (lA 2 hs++[x.sh 1 (.ofNat 1)]) z]],s.p] (match (((rb).lam u).lam .list).lam .nat with | .er _ n=>XR.er .z n | .ok k=>XR.fit (.n3 .fo u v k t)).p:=by
 have gl0:=SH u (rb) cb;have gl1:=SH .list ((rb).lam u) (CK _ _);have gl2:=SH .nat (((rb).lam u).lam .list) (CK _ _);have cl:=CK .nat ((((rb).lam u).lam .list));generalize (((rb).lam u).lam .list).lam .nat=rl at gl2 cl ⊢
 cases rl with
 | er q n=>exact f19 [(282,.n [(225,.n [(12,.r (XR.ok t).p)]),(236,.n [(27,.r (tyR (.ok u) c)),(44,.r (XR.ok v).p),(51,.Y),(55,.r s.bind.p),(56,.r (Tm.v 0).p),(57,.r (s.bind.var (.v 0)).p),(64,.Y),(65,.r Ty.list.p),(69,.r (s.bind.var (.v 0)).bind.p),(70,.r (Tm.v 0).p),(71,.r ((s.bind.var (.v 0)).bind.var (.v 0)).p),(81,.r ((s.bind.var (.v 0)).bind.var (.v 0)).bind.p),(82,.r (Tm.v 0).p),(83,.r (((s.bind.var (.v 0)).bind.var (.v 0)).bind.hyp (.v 0)).p),(84,.r rb.p),(101,.r ((rb).lam u).p),(101,.r (((rb).lam u).lam .list).p),(101,.r (XR.er q n).p)])])] gp g ga EN gs (GB 0) gv EN If gs2 (GB 0) gv2 gs3 (GB 0) gh gb gl0 gl1 gl2
 | ok k =>
  have c1:k.cnt<=4096:=cl;have hm:=jA;exact f20 [(282,.n [(225,.n [(12,.r (XR.ok t).p)]),(236,.n [(27,.r (tyR (.ok u) c)),(44,.r (XR.ok v).p),(51,.Y),(55,.r s.bind.p),(56,.r (Tm.v 0).p),(57,.r (s.bind.var (.v 0)).p),(64,.Y),(65,.r Ty.list.p),(69,.r (s.bind.var (.v 0)).bind.p),(70,.r (Tm.v 0).p),(71,.r ((s.bind.var (.v 0)).bind.var (.v 0)).p),(81,.r ((s.bind.var (.v 0)).bind.var (.v 0)).bind.p),(82,.r (Tm.v 0).p),(83,.r (((s.bind.var (.v 0)).bind.var (.v 0)).bind.hyp (.v 0)).p),(84,.r rb.p),(101,.r ((rb).lam u).p),(101,.r (((rb).lam u).lam .list).p),(101,.r (XR.ok k).p),(114,.r (XR.fit (.n3 .fo u v k t)).p)])])] gp g ga EN gs (GB 0) gv EN If gs2 (GB 0) gv2 gs3 (GB 0) gh gb gl0 gl1 gl2 (Ff .fo u v k t)
theorem Js {a:Jt} {u w:Ty} {x f:Fm} {q:Sx} {n:Nat} (ga:dB tl hs a (.q .all u (.q .ex w x)) s (.er q n)):A 37 [zB tl,MA (Pf.p1 .choice a.p) f hs [[a.pf hs (.q .all u (.q .ex w x))]],s.p] (XR.er .z n).p:=by
 exact f1 [(282,.n [(242,.n [(26,.r (XR.er q n).p)])])] ga
theorem Ks {a:Jt} {u w:Ty} {x f:Fm} {t:Tm} {n:Nat} {c:Bool} (ga:dB tl hs a (.q .all u (.q .ex w x)) s (.ok t)) (g:A 93 [x.p] (tyR (.er n) c)):A 37 [zB tl,MA (Pf.p1 .choice a.p) f hs [[a.pf hs (.q .all u (.q .ex w x))]],s.p] (XR.er t.x n).p:=by
 exact f2 [(282,.n [(242,.n [(26,.r (XR.ok t).p),(50,.r (tyR (.er n) c))])])] ga g
theorem Ls {a:Jt} {u w:Ty} {x f:Fm} {t:Tm} {v:Ty} (ga:dB tl hs a (.q .all u (.q .ex w x)) s (.ok t)) (g:A 93 [x.p] (tyR (.ok v) false)):A 37 [zB tl,MA (Pf.p1 .choice a.p) f hs [[a.pf hs (.q .all u (.q .ex w x))]],s.p] (XR.ok t).p:=by
 exact f2 [(282,.n [(242,.n [(26,.r (XR.ok t).p),(50,.r (tyR (.ok v) false))])])] ga g
theorem Ms {a:Jt} {u w:Ty} {x f:Fm} {t:Tm} {v:Ty} {n:Nat} (ga:dB tl hs a (.q .all u (.q .ex w x)) s (.ok t)) (g:A 93 [x.p] (tyR (.ok v) true)) (g2:A 243 [w.p,v.p] (TR.er n).p):A 37 [zB tl,MA (Pf.p1 .choice a.p) f hs [[a.pf hs (.q .all u (.q .ex w x))]],s.p] (XR.er .z n).p:=by
 exact f3 [(282,.n [(242,.n [(26,.r (XR.ok t).p),(50,.r (tyR (.ok v) true)),(69,.r (TR.er n).p)])])] ga g g2
theorem Ns {a:Jt} {u w:Ty} {x f:Fm} {t:Tm} {v k:Ty} {n:Nat} (ga:dB tl hs a (.q .all u (.q .ex w x)) s (.ok t)) (g:A 93 [x.p] (tyR (.ok v) true)) (g2:A 243 [w.p,v.p] (TR.ok k).p) (g3:A 249 [u.p,k.p] (TR.er n).p):A 37 [zB tl,MA (Pf.p1 .choice a.p) f hs [[a.pf hs (.q .all u (.q .ex w x))]],s.p] (XR.er .z n).p:=by
 exact f4 [(282,.n [(242,.n [(26,.r (XR.ok t).p),(50,.r (tyR (.ok v) true)),(69,.r (TR.ok k).p),(80,.r (TR.er n).p)])])] ga g g2 g3
abbrev zM (u:Ty):Tm:=.n2 .pair (.lam u (.n1 .fst (.n2 .app (.v 1) (.v 0)))) (.lam u (.n1 .snd (.n2 .app (.v 1) (.v 0))))
theorem Ps {a:Jt} {u w:Ty} {x f:Fm} {t:Tm} {v k m:Ty} (ga:dB tl hs a (.q .all u (.q .ex w x)) s (.ok t)) (ct:t.cnt<=4096) (g:A 93 [x.p] (tyR (.ok v) true)) (g2:A 243 [w.p,v.p] (TR.ok k).p) (g3:A 249 [u.p,k.p] (TR.ok m).p):A 37 [zB tl,MA (Pf.p1 .choice a.p) f hs [[a.pf hs (.q .all u (.q .ex w x))]],s.p] (XR.fit (.n2 .app (.lam m (zM u)) t)).p:=by
 exact f9 [(282,.n [(242,.n [(26,.r (XR.ok t).p),(50,.r (tyR (.ok v) true)),(69,.r (TR.ok k).p),(80,.r (TR.ok m).p),(89,.n [(5,.r (Tm.v 1).p),(6,.r (Tm.v 0).p)]),(91,.n [(5,.r (Tm.v 1).p),(6,.r (Tm.v 0).p)]),(101,.r (XR.fit (.n2 .app (.lam m (zM u)) t)).p)])])] ga g g2 g3 (GB 1) (GB 0) (GB 1) (GB 0) (AK .app (.lam m (zM u)) t (by have hm:=jA;simp only [Tm.cnt];omega))
end Go.Proofs.YtmkajedkflhbgaaGreatDoor
namespace Go.Proofs.YtmkajedkflhbgaaGreatDoor
open Go.Lg
set_option maxRecDepth 100000
def Fm.both:Fm->Bool
 | .bin _ x y=>x.has && y.has
 | _=>false
def NT (f:Fm) (t:Tm):Tm:=match f with
 | .q _ u (.q _ w x)=>bif x.has then .n2 .app (.lam (.two true u (.two false w x.cty)) (zM u)) t else t
 | _=>t
def Fm.qs:Fm->Ty
 | .q _ s _=>s
 | _ => .unit
def Sc.hy (s:Sc) (i:Nat):Tm:=match s.ks[s.ks.length-1-i]? with
 | some (.hy t d _)=>t.sh 0 (.ofNat (s.dep-d))
 | _ => .n0 .unit
def Jt.xt (tl:List Tm):Jt->Sc->Tm
 | .leaf u i _,s=>match u with
  | false=>s.hy i
  | true=>match tl[i]? with
   | some t=>t
   | none => .n0 .unit
 | .refl _,_ => .n0 .unit
 | .p1 k a _,s=>match k with
  | .andL=>bif a.f.both then .n1 .fst (a.xt tl s) else a.xt tl s
  | .andR=>bif a.f.both then .n1 .snd (a.xt tl s) else a.xt tl s
  | .choice=>NT a.f (a.xt tl s)
 | .p2 k a b _,s=>match k with
  | .andI=>bif a.f.has then (bif b.f.has then .n2 .pair (a.xt tl s) (b.xt tl s) else a.xt tl s) else b.xt tl s
  | .impE=>bif b.f.has then .n2 .app (a.xt tl s) (b.xt tl s) else a.xt tl s
  | .exE=>bif a.f.bd.has then .n2 .app (.lam (.two false a.f.qs a.f.bd.cty) (b.xt tl ((s.bind.var (.n1 .fst (.v 0))).hyp (.n1 .snd (.v 0))))) (a.xt tl s) else .n2 .app (.lam a.f.qs (b.xt tl (s.bind.var (.v 0)).bare)) (a.xt tl s)
  | .exUE=>bif a.f.bd.has then .n2 .app (.lam a.f.bd.cty (b.xt tl ((s.bind.var a.f.qs.ini).hyp (.v 0)))) (a.xt tl s) else b.xt tl (s.var a.f.qs.ini).bare
 | .impI x a,s=>bif x.has then .lam x.cty (a.xt tl (s.bind.hyp (.v 0))) else a.xt tl s.bare
 | .all u t a,s=>match u with
  | false => .lam t (a.xt tl (s.bind.var (.v 0)))
  | true=>a.xt tl (s.var t.ini)
 | .ins u t a _,s=>match u with
  | false => .n2 .app (a.xt tl s) (t.ps s.vs s.dep 0)
  | true=>a.xt tl s
 | .ex u _ t a,s=>match u with
  | false=>bif a.f.has then .n2 .pair (t.ps s.vs s.dep 0) (a.xt tl s) else t.ps s.vs s.dep 0
  | true=>a.xt tl s
 | .ind l x t a b _,s=>match l with
  | false => .n3 .re x.cty (a.xt tl s) (.lam .nat (.lam x.cty (b.xt tl ((s.bind.var (.v 0)).bind.hyp (.v 0))))) (t.ps s.vs s.dep 0)
  | true => .n3 .fo x.cty (a.xt tl s) (.lam .nat (.lam .list (.lam x.cty (b.xt tl (((s.bind.var (.v 0)).bind.var (.v 0)).bind.hyp (.v 0)))))) (t.ps s.vs s.dep 0)
 | .subst _ _ b _,s=>b.xt tl s
abbrev BT (tl:List Tm) (hs:List Fm) (j:Jt) (s:Sc):Prop:=∃ r:XR,A 37 [zB tl,j.ptr hs,s.p] r.p/\r.Gd s.dep (j.xt tl s)
theorem TX {n:Nat} {bs:List Bool} {s:Sc} {t:Tm} (hS:ScOK n bs s) (ht:TK n t):(XR.fit (t.ps s.vs s.dep 0)).Gd s.dep (t.ps s.vs s.dep 0):=by
 have hc:t.sc (s.vs.length+0):=by rw [hS.vl];exact ht.sc
 exact ZL (eK hS.ve t 0 ht.shp) (iK hS.ve t 0 hc) rfl
theorem jM {a b:Tm} {c:Bool} (h:c=true):(bif c then a else b)=a:=by rw [h];rfl
theorem HN {a b:Tm} {c:Bool} (h:c=false):(bif c then a else b)=b:=by rw [h];rfl
theorem Tm.c_len (t:Tm):t.c.length=5:=rfl
theorem Qs (f:Fm):1<=f.cnt:=by cases f<;>simp [Fm.cnt]<;>omega
theorem YB {ls:List Fm} {tl:List Tm} (HT:∀ (i:Nat) (f:Fm),ls[i]? = some f->∃ t,tl[i]? = some t/\TK 0 t):∀ (j:Jt) (n:Nat) (hs:List Fm) (s:Sc),j.OK ls n hs->j.f.has=true->ScOK n (hs.map Fm.has) s->n+j.p.cnt<=90000->hs.length+j.p.cnt<=qA->s.dep+j.p.cnt<=90000->s.hyps+j.p.cnt<=qA->BT tl hs j s
 | .leaf u i f,n,hs,s,h,hf,hS,hn,hl,hd,hh=>by
  have hm:=jA;have hb:=uA;have hlm:EA=100000:=rfl;simp only [Jt.p,Pf.cnt] at hn hl hd hh;obtain⟨h0,h⟩:=h;replace hf:f.has=true:=hf;cases u
  ·obtain⟨h1,h2⟩:=h;have hk:(hs.map Fm.has)[hs.length-1-i]? = some true:=by rw [List.getElem?_map,h2];exact congrArg some hf
   obtain⟨t,d,p,e⟩:=hS.kh _ hk;obtain⟨q1,q2⟩:=hS.ke _ (List.mem_of_getElem? e) t d p rfl;have g1:=nB (a:=(hs.map Fm.c).length) (by simp;omega) (by simp;omega);have g2:rA (Int.ofNat ((hs.map Fm.c).length-1) - .ofNat i)=true/\Int.ofNat ((hs.map Fm.c).length-1) - .ofNat i = .ofNat (hs.length-1-i):=by
    have e:Int.ofNat ((hs.map Fm.c).length-1) - .ofNat i = .ofNat (hs.length-1-i):=by simp;omega
    exact⟨by rw [e];exact eA,e⟩
   have g3:=cr s _ t d p e q1 (by omega) q2;have q3:=q2.sh (s.dep-d);have ed:d+(s.dep-d)=s.dep:=by omega
   rw [ed] at q3;have ex:s.hy i=t.sh 0 (.ofNat (s.dep-d)):=by
    unfold Sc.hy;rw [show s.ks.length=hs.length by have:=hS.kl;simpa using this,e]
   refine⟨.ok (t.sh 0 (.ofNat (s.dep-d))),f3 [(38,.z ((hs.map Fm.c).length-1)),(44,.z (hs.length-1-i)),(45,.U [(t.sh 0 (.ofNat (s.dep-d))).p,.bool true])] g1 g2 g3,q3,ex.symm⟩
  ·obtain⟨t,e,q⟩:=HT i f h;exact⟨.ok t,f1 [(58,.i t.c)] (KA e Tm.c_len),rr q (Nat.zero_le _),by show t=(match tl[i]? with|some t=>t|none => .n0 .unit);rw [e]⟩
 | .refl t,n,hs,s,h,hf,hS,hn,hl,hd,hh=>by
  have hf:false=true:=hf;cases hf
 | .p1 k a f,n,hs,s,⟨h0,h1,h2⟩,hf,hS,hn,hl,hd,hh=>by
  have hm:=jA;have hlm:EA=100000:=rfl;simp only [Jt.p,Pf.cnt] at hn hl hd hh;replace hf:f.has=true:=hf;have FA:=Jt.FKj h1;cases k
  ·obtain⟨y,e⟩:=h2;have ha:a.f.has=true:=by rw [e];show (f.has || y.has)=true;rw [hf];rfl
   obtain⟨r,g1,q1⟩:=YB HT a n hs s h1 ha hS (by omega) (by omega) (by omega) (by omega);rw [e] at FA;obtain⟨t0,g2,_⟩:=YI FA.bin1;obtain⟨t1,g3,_⟩:=YI FA.bin2;rw [hf] at g2;cases hy:y.has<;>rw [hy] at g3
   ·have g:=Gr (tl:=tl) (hs:=hs) (s:=s) (a:=a) (f:=f) (y:=y) (ra:=r) (by rw [<- e];exact g1) g2 g3 q1.cn;rw [<- e] at g;have ex:(Jt.p1 .andL a f).xt tl s=a.xt tl s:=HN (by rw [e];show (f.has && y.has)=false;rw [hf,hy];rfl);rw [BT,ex];exact⟨_,g,q1⟩
   ·have g:=Fr (tl:=tl) (hs:=hs) (s:=s) (a:=a) (f:=f) (y:=y) (ra:=r) (by rw [<- e];exact g1) g2 g3 q1.cn;rw [<- e] at g;have ex:(Jt.p1 .andL a f).xt tl s = .n1 .fst (a.xt tl s):=jM (by rw [e];show (f.has && y.has)=true;rw [hf,hy];rfl);rw [BT,ex];exact⟨_,g,Jf q1⟩
  ·obtain⟨y,e⟩:=h2;have ha:a.f.has=true:=by rw [e];show (y.has || f.has)=true;rw [hf];cases y.has<;>rfl
   obtain⟨r,g1,q1⟩:=YB HT a n hs s h1 ha hS (by omega) (by omega) (by omega) (by omega);rw [e] at FA;obtain⟨t0,g2,_⟩:=YI FA.bin1;obtain⟨t1,g3,_⟩:=YI FA.bin2;rw [hf] at g3;cases hy:y.has<;>rw [hy] at g2
   ·have g:=Ir (tl:=tl) (hs:=hs) (s:=s) (a:=a) (f:=f) (y:=y) (ra:=r) (by rw [<- e];exact g1) g2 g3 q1.cn;rw [<- e] at g;have ex:(Jt.p1 .andR a f).xt tl s=a.xt tl s:=HN (by rw [e];show (y.has && f.has)=false;rw [hf,hy];rfl);rw [BT,ex];exact⟨_,g,q1⟩
   ·have g:=Hr (tl:=tl) (hs:=hs) (s:=s) (a:=a) (f:=f) (y:=y) (ra:=r) (by rw [<- e];exact g1) g2 g3 q1.cn;rw [<- e] at g;have ex:(Jt.p1 .andR a f).xt tl s = .n1 .snd (a.xt tl s):=jM (by rw [e];show (y.has && f.has)=true;rw [hf,hy];rfl);rw [BT,ex];exact⟨_,g,Jf q1⟩
  ·obtain⟨u,w,x,e,y,e1,e2⟩:=h2;have ha:a.f.has=true:=by rw [e];rfl
   obtain⟨r,g1,q1⟩:=YB HT a n hs s h1 ha hS (by omega) (by omega) (by omega) (by omega);rw [e] at FA;have sw:=IE (DA FA.qf.shp).1;have su:=IE (DA FA.shp).1;obtain⟨T,g2,z2,ze,zt⟩:=YI FA.qf.qf;have ex:(Jt.p1 .choice a f).xt tl s=bif x.has then .n2 .app (.lam (.two true u (.two false w x.cty)) (zM u)) (a.xt tl s) else a.xt tl s:=by show NT a.f _=_;rw [e];rfl
   rw [BT,ex]
   cases r with
   | er q m =>
    have g:=Js (tl:=tl) (hs:=hs) (s:=s) (a:=a) (f:=f) (u:=u) (w:=w) (x:=x) (q:=q) (n:=m) (by rw [<- e];exact g1);rw [<- e] at g;exact⟨_,g,by first|exact ze _ rfl|exact YL ‹_› | exact q1⟩
   | ok t =>
    have q2:=q1
    cases T with
    | er m =>
     have g:=Ks (tl:=tl) (hs:=hs) (s:=s) (a:=a) (f:=f) (u:=u) (w:=w) (x:=x) (t:=t) (by rw [<- e];exact g1) g2;rw [<- e] at g;exact⟨_,g,by first|exact ze _ rfl|exact YL ‹_› | exact q1⟩
    | ok v =>
     cases hx:x.has<;>rw [hx] at g2
     ·have g:=Ls (tl:=tl) (hs:=hs) (s:=s) (a:=a) (f:=f) (u:=u) (w:=w) (x:=x) (t:=t) (by rw [<- e];exact g1) g2;rw [<- e] at g;exact⟨_,g,q2⟩
     ·have hv:v.size<=64:=z2;have hvc:=zt v rfl hx;have g3:=Hf w v
      cases e3:TR.fit (.two false w v) with
      | er m =>
       rw [e3] at g3;have g:=Ms (tl:=tl) (hs:=hs) (s:=s) (a:=a) (f:=f) (u:=u) (w:=w) (x:=x) (t:=t) (by rw [<- e];exact g1) g2 g3;rw [<- e] at g;exact⟨_,g,by first|exact ze _ rfl|exact YL ‹_› | exact q1⟩
      | ok k =>
       rw [e3] at g3;have hk:k.size<=64/\k = .two false w v:=by
        unfold TR.fit at e3;split at e3
        ·rename_i h;cases e3;exact⟨h,rfl⟩
        ·cases e3
       have g4:=xr u k (by have:=hk.1;omega)
       cases e4:TR.fit (.two true u k) with
       | er m =>
        rw [e4] at g4;have g:=Ns (tl:=tl) (hs:=hs) (s:=s) (a:=a) (f:=f) (u:=u) (w:=w) (x:=x) (t:=t) (by rw [<- e];exact g1) g2 g3 g4;rw [<- e] at g;exact⟨_,g,by first|exact ze _ rfl|exact YL ‹_› | exact q1⟩
       | ok m =>
        rw [e4] at g4;have hm':m.size<=64/\m = .two true u k:=by
         unfold TR.fit at e4;split at e4
         ·rename_i h;cases e4;exact⟨h,rfl⟩
         ·cases e4
        have g:=Ps (tl:=tl) (hs:=hs) (s:=s) (a:=a) (f:=f) (u:=u) (w:=w) (x:=x) (t:=t) (by rw [<- e];exact g1) q1.1.cnt g2 g3 g4;rw [<- e] at g;refine⟨_,g,ZL ?_ ?_ ?_⟩
        ·show (Nat.beq m.chk 0 && ((Nat.beq u.chk 0 && _) && (Nat.beq u.chk 0 && _)) && _)=true;rw [FN hm'.1,FN su,q2.1.shp];rfl
        ·refine⟨⟨⟨?_,?_⟩,?_,?_⟩,q2.1.sc⟩<;>simp only [Tm.sc]<;>omega
        ·rw [hm'.2,hk.2,hvc,q2.2];rfl
 | .p2 k a b f,n,hs,s,⟨h0,h1,h2⟩,hf,hS,hn,hl,hd,hh=>by
  have hm:=jA;have hlm:EA=100000:=rfl;simp only [Jt.p,Pf.cnt] at hn hl hd hh;have ca:=DN a.p;have cb:=DN b.p;replace hf:f.has=true:=hf;have hkl:s.ks.length=hs.length:=by have:=hS.kl;simpa using this
  have FA:=Jt.FKj h1;cases k
  ·obtain⟨h3,e⟩:=h2;subst e;have hor:a.f.has=true\/b.f.has=true:=by have:(a.f.has || b.f.has)=true:=hf;simpa using this
   cases ha:a.f.has
   ·have hbh:b.f.has=true:=by rcases hor with h|h;rw [ha] at h;cases h;exact h
    obtain⟨r,g1,q1⟩:=YB HT b n hs s h3 hbh hS (by omega) (by omega) (by omega) (by omega);exact⟨_,Er ha g1,by show r.Gd s.dep (bif a.f.has then _ else _);rw [HN ha];exact q1⟩
   ·obtain⟨r,g1,q1⟩:=YB HT a n hs s h1 ha hS (by omega) (by omega) (by omega) (by omega);cases hbh:b.f.has
    ·exact⟨_,Dr ha hbh g1,by show r.Gd s.dep (bif a.f.has then (bif b.f.has then _ else _) else _);rw [jM ha,HN hbh];exact q1⟩
    ·obtain⟨r2,g2,q2⟩:=YB HT b n hs s h3 hbh hS (by omega) (by omega) (by omega) (by omega);exact⟨_,Cr ha hbh g1 g2 q1.cn q2.cn,by show XR.Gd s.dep (bif a.f.has then (bif b.f.has then _ else _) else _) _;rw [jM ha,jM hbh];exact qM q1 q2⟩
  ·obtain⟨h3,x,e⟩:=h2;have ha:a.f.has=true:=by rw [e];exact hf
   obtain⟨r,g1,q1⟩:=YB HT a n hs s h1 ha hS (by omega) (by omega) (by omega) (by omega);cases hbh:b.f.has
   ·have g:=Mr (tl:=tl) (hs:=hs) (s:=s) (a:=a) (b:=b) (x:=x) (y:=b.f) (f:=f) (ra:=r) hbh (by rw [<- e];exact g1);rw [<- e] at g;exact⟨_,g,by show r.Gd s.dep (bif b.f.has then _ else _);rw [HN hbh];exact q1⟩
   ·obtain⟨r2,g2,q2⟩:=YB HT b n hs s h3 hbh hS (by omega) (by omega) (by omega) (by omega);have g:=Nr (tl:=tl) (hs:=hs) (s:=s) (a:=a) (b:=b) (x:=x) (y:=b.f) (f:=f) (ra:=r) (rb:=r2) hbh (by rw [<- e];exact g1) g2 q1.cn q2.cn;rw [<- e] at g;exact⟨_,g,by show XR.Gd s.dep (bif b.f.has then _ else _) _;rw [jM hbh];exact qM q1 q2⟩
  ·obtain⟨h3,⟨u,e⟩,e1⟩:=h2;have ex:(Jt.p2 .exE a b f).xt tl s=bif a.f.bd.has then .n2 .app (.lam (.two false a.f.qs a.f.bd.cty) (b.xt tl ((s.bind.var (.n1 .fst (.v 0))).hyp (.n1 .snd (.v 0))))) (a.xt tl s) else .n2 .app (.lam a.f.qs (b.xt tl (s.bind.var (.v 0)).bare)) (a.xt tl s):=rfl;rw [BT,ex];have eu:a.f.qs=u:=by rw [e];rfl
   rw [eu];generalize hx:a.f.bd=x at *
   have ha:a.f.has=true:=by rw [e];rfl
   have hbh:b.f.has=true:=by rw [<- BB (WJ e1)];exact hf
   rw [e] at FA;have su:=IE (DA FA.shp).1;obtain⟨T,g2,z2,ze,zt⟩:=YI FA.qf;have gs:=QH s
   cases T with
   | er m =>
    have g:=Wr (tl:=tl) (hs:=hs) (s:=s) (a:=a) (b:=b) (u:=u) (x:=x) (y:=b.f) (f:=f) g2;rw [<- e,<- hx] at g;exact⟨_,g,by first|exact ze _ rfl|exact YL ‹_› | exact q1⟩
   | ok w =>
    have hw:w.size<=64:=z2;obtain⟨r,g1,q1⟩:=YB HT a n hs s h1 ha hS (by omega) (by omega) (by omega) (by omega);cases hxh:x.has<;>rw [hxh] at g2
    ·have S1:=(hS.bind.var (t:=.v 0) (WD (by show 0<s.dep+1;omega))).bare;have gv:=RH s.bind (.v 0) (by rw [hS.bind.vl];omega);have gh:=RX (s.bind.var (.v 0)) (by show s.ks.length<=qA;omega) (by show s.hyps<=qA;omega);obtain⟨r2,g3,q3⟩:=YB HT b (n+1) _ _ h3 hbh (by rw [List.map_append,YG,List.map_cons,hxh];exact S1) (by omega) (by simp;omega) (by show s.dep+1+_<=_;omega) (by show s.hyps+1+_<=_;omega);have g:=Zr (tl:=tl) (hs:=hs) (s:=s) (a:=a) (b:=b) (u:=u) (x:=x) (y:=b.f) (f:=f) g2 gs gv gh g3 q3.cn (by rw [<- e];exact g1) q1.cn;rw [<- e,<- hx] at g;exact⟨_,g,qM (TH su q3) q1⟩
    ·have gp:=Hf u w
     cases e3:TR.fit (.two false u w) with
     | er m =>
      rw [e3] at gp;have g:=Xr (tl:=tl) (hs:=hs) (s:=s) (a:=a) (b:=b) (u:=u) (x:=x) (y:=b.f) (f:=f) g2 gs gp;rw [<- e,<- hx] at g;exact⟨_,g,by first|exact ze _ rfl|exact YL ‹_› | exact q1⟩
     | ok k =>
      rw [e3] at gp;unfold TR.fit at e3;split at e3;rotate_left
      ·cases e3
      rename_i hk;cases e3;have hz:TK (s.dep+1) (.v 0):=WD;have S0:=hS.bind.var (t:=.n1 .fst (.v 0)) (FT hz (by simp [Tm.cnt]));have S1:=S0.hyp (t:=.n1 .snd (.v 0)) (FT hz (by simp [Tm.cnt])) true;have gv:=RH s.bind (.n1 .fst (.v 0)) (by rw [hS.bind.vl];omega);have gh:=uQ (s.bind.var (.n1 .fst (.v 0))) (.n1 .snd (.v 0)) (by show s.ks.length<=qA;omega) (by show s.hyps<=qA;omega);obtain⟨r2,g3,q3⟩:=YB HT b (n+1) _ _ h3 hbh (by rw [List.map_append,YG,List.map_cons,hxh];exact S1) (by omega) (by simp;omega) (by show s.dep+1+_<=_;omega) (by show s.hyps+1+_<=_;omega);have g:=Yr (tl:=tl) (hs:=hs) (s:=s) (a:=a) (b:=b) (u:=u) (x:=x) (y:=b.f) (f:=f) g2 gs gp gv gh g3 q3.cn (by rw [<- e];exact g1) q1.cn;rw [<- e,<- hx] at g;rw [zt w rfl hxh] at g hk;exact⟨_,g,qM (TH hk q3) q1⟩
  ·obtain⟨h3,⟨u,e⟩,e1⟩:=h2;have ex:(Jt.p2 .exUE a b f).xt tl s=bif a.f.bd.has then .n2 .app (.lam a.f.bd.cty (b.xt tl ((s.bind.var a.f.qs.ini).hyp (.v 0)))) (a.xt tl s) else b.xt tl (s.var a.f.qs.ini).bare:=rfl;rw [BT,ex];have eu:a.f.qs=u:=by rw [e];rfl
   rw [eu];generalize hx:a.f.bd=x at *
   have hbh:b.f.has=true:=by rw [<- BB (WJ e1)];exact hf
   rw [e] at FA;have su:=IE (DA FA.shp).1;obtain⟨T,g2,z2,ze,zt⟩:=YI FA.qf;have gs:=QH s
   cases T with
   | er m =>
    have g:=js (tl:=tl) (hs:=hs) (s:=s) (a:=a) (b:=b) (u:=u) (x:=x) (y:=b.f) (f:=f) g2;rw [<- e,<- hx] at g;exact⟨_,g,by first|exact ze _ rfl|exact YL ‹_› | exact q1⟩
   | ok w =>
    have hw:w.size<=64:=z2;cases hxh:x.has<;>rw [hxh] at g2
    ·have S1:=(hS.var (t:=u.ini) (GN u su s.dep)).bare;have gv:=RH s u.ini (by rw [hS.vl];omega);have gh:=RX (s.var u.ini) (by show s.ks.length<=qA;omega) (by show s.hyps<=qA;omega);obtain⟨r2,g3,q3⟩:=YB HT b (n+1) _ _ h3 hbh (by rw [List.map_append,YG,List.map_cons,hxh];exact S1) (by omega) (by simp;omega) (by show s.dep+_<=_;omega) (by show s.hyps+1+_<=_;omega);have g:=ws (tl:=tl) (hs:=hs) (s:=s) (a:=a) (b:=b) (u:=u) (x:=x) (y:=b.f) (f:=f) g2 gv gh g3;rw [<- e,<- hx] at g;exact⟨_,g,q3⟩
    ·have ha:a.f.has=true:=by rw [e];exact hxh
     obtain⟨r,g1,q1⟩:=YB HT a n hs s h1 ha hS (by omega) (by omega) (by omega) (by omega);have S0:=hS.bind.var (t:=u.ini) (GN u su _);have S1:=S0.hyp (t:=.v 0) (WD (by show 0<s.dep+1;omega)) true;have gv:=RH s.bind u.ini (by rw [hS.bind.vl];omega);have gh:=uQ (s.bind.var u.ini) (.v 0) (by show s.ks.length<=qA;omega) (by show s.hyps<=qA;omega);obtain⟨r2,g3,q3⟩:=YB HT b (n+1) _ _ h3 hbh (by rw [List.map_append,YG,List.map_cons,hxh];exact S1) (by omega) (by simp;omega) (by show s.dep+1+_<=_;omega) (by show s.hyps+1+_<=_;omega);have g:=ss (tl:=tl) (hs:=hs) (s:=s) (a:=a) (b:=b) (u:=u) (x:=x) (y:=b.f) (f:=f) g2 gs gv gh g3 q3.cn (by rw [<- e];exact g1) q1.cn;rw [<- e,<- hx] at g;rw [zt w rfl hxh] at g hw;exact⟨_,g,qM (TH hw q3) q1⟩
 | .impI x a,n,hs,s,⟨h0,h1,h2⟩,hf,hS,hn,hl,hd,hh=>by
  have hm:=jA;have hlm:EA=100000:=rfl;simp only [Jt.p,Pf.cnt] at hn hl hd hh;have hkl:s.ks.length=hs.length:=by have:=hS.kl;simpa using this
  have ha:a.f.has=true:=hf;have ex:(Jt.impI x a).xt tl s=bif x.has then .lam x.cty (a.xt tl (s.bind.hyp (.v 0))) else a.xt tl s.bare:=rfl;rw [BT,ex];obtain⟨T,g2,z2,ze,zt⟩:=YI h0
  cases T with
  | er m=>exact⟨_,Jr g2,ze _ rfl⟩
  | ok u =>
   have hu:u.size<=64:=z2;cases hxh:x.has<;>rw [hxh] at g2
   ·have S1:=hS.bare;have gh:=RX s;obtain⟨r2,g3,q3⟩:=YB HT a n _ _ h2 ha (by rw [List.map_append,List.map_cons,hxh];exact S1) (by omega) (by simp;omega) (by show s.dep+_<=_;omega) (by show s.hyps+1+_<=_;omega);exact⟨_,Kr g2 gh g3,q3⟩
   ·have S1:=hS.bind.hyp (t:=.v 0) (WD (by show 0<s.dep+1;omega)) true;have gs:=QH s;have gh:=uQ s.bind (.v 0) (by show s.ks.length<=qA;omega) (by show s.hyps<=qA;omega);obtain⟨r2,g3,q3⟩:=YB HT a n _ _ h2 ha (by rw [List.map_append,List.map_cons,hxh];exact S1) (by omega) (by simp;omega) (by show s.dep+1+_<=_;omega) (by show s.hyps+1+_<=_;omega);rw [zt u rfl hxh] at g2 hu;exact⟨_,Lr g2 gs gh g3 q3.cn,TH hu q3⟩
 | .all c u a,n,hs,s,⟨h0,h1,h2⟩,hf,hS,hn,hl,hd,hh=>by
  have hm:=jA;simp only [Jt.p,Pf.cnt] at hn hl hd hh;cases c
  ·have ha:a.f.has=true:=hf;have S1:=hS.bind.var (t:=.v 0) (WD (by show 0<s.dep+1;omega));have gs:=QH s;have gv:=RH s.bind (.v 0) (by rw [hS.bind.vl];omega);obtain⟨r2,g3,q3⟩:=YB HT a (n+1) _ _ h2 ha (by rw [YG];exact S1) (by omega) (by simp;omega) (by show s.dep+1+_<=_;omega) (by show s.hyps+_<=_;omega);exact⟨_,Kf gs gv g3 q3.cn,TH h0 q3⟩
  ·have ha:a.f.has=true:=hf;have S1:=hS.var (t:=u.ini) (GN u h0 s.dep);have gv:=RH s u.ini (by rw [hS.vl];omega);obtain⟨r2,g3,q3⟩:=YB HT a (n+1) _ _ h2 ha (by rw [YG];exact S1) (by omega) (by simp;omega) (by show s.dep+_<=_;omega) (by show s.hyps+_<=_;omega);exact⟨_,Pr gv g3,q3⟩
 | .ins c t a f,n,hs,s,⟨h0,h1,h2,u,x,e,e1⟩,hf,hS,hn,hl,hd,hh=>by
  have hm:=jA;have hlm:EA=100000:=rfl;simp only [Jt.p,Pf.cnt] at hn hl hd hh;replace hf:f.has=true:=hf;have hxh:x.has=true:=by rw [<- BB (NC e1)];exact hf
  cases c
  ·have ha:a.f.has=true:=by rw [e];exact hxh
   obtain⟨r,g1,q1⟩:=YB HT a n hs s h2 ha hS (by omega) (by omega) (by omega) (by omega);have e:a.f = .q .all u x:=e;have gp:=GT s t n hS.vl.symm hS.ve (by omega) (by rw [hS.vl];omega) h1;have qp:(XR.fit (t.ps s.vs s.dep 0)).Gd s.dep (t.ps s.vs s.dep 0):=TX hS h1;have g:=Qr (tl:=tl) (hs:=hs) (s:=s) (a:=a) (w:=t) (u:=u) (x:=x) (f:=f) (by rw [<- e];exact g1) gp q1.cn qp.cn;rw [<- e] at g;exact⟨_,g,qM q1 qp⟩
  ·have ha:a.f.has=true:=by rw [e];exact hxh
   obtain⟨r,g1,q1⟩:=YB HT a n hs s h2 ha hS (by omega) (by omega) (by omega) (by omega);have e:a.f = .q .allU u x:=e;have g:=Rr (tl:=tl) (hs:=hs) (s:=s) (a:=a) (w:=t) (u:=u) (x:=x) (f:=f) (by rw [<- e];exact g1);rw [<- e] at g;exact⟨_,g,q1⟩
 | .ex c x t a,n,hs,s,⟨h0,h1,h2,⟨u,e⟩,e1⟩,hf,hS,hn,hl,hd,hh=>by
  have hm:=jA;have hlm:EA=100000:=rfl;simp only [Jt.p,Pf.cnt] at hn hl hd hh;replace hf:x.has=true:=hf;cases c
  ·have gp:=GT s t n hS.vl.symm hS.ve (by omega) (by rw [hS.vl];omega) h1;have qp:(XR.fit (t.ps s.vs s.dep 0)).Gd s.dep (t.ps s.vs s.dep 0):=TX hS h1;cases ha:a.f.has
   ·exact⟨_,Mf ha gp,by show XR.Gd s.dep (bif a.f.has then _ else _) _;rw [HN ha];exact qp⟩
   ·obtain⟨r,g1,q1⟩:=YB HT a n hs s h2 ha hS (by omega) (by omega) (by omega) (by omega);exact⟨_,Sr ha g1 gp q1.cn qp.cn,by show XR.Gd s.dep (bif a.f.has then _ else _) _;rw [jM ha];exact qM qp q1⟩
  ·have ha:a.f.has=true:=by
    rw [BB e1];rw [e] at hf;exact hf
   obtain⟨r,g1,q1⟩:=YB HT a n hs s h2 ha hS (by omega) (by omega) (by omega) (by omega);exact⟨_,Ur g1,q1⟩
 | .ind l x t a b f,n,hs,s,⟨h0,h1,h2,h3,e,⟨ea,eb⟩,h4⟩,hf,hS,hn,hl,hd,hh=>by
  have hm:=jA;have hlm:EA=100000:=rfl;simp only [Jt.p,Pf.cnt] at hn hl hd hh;have ct:=pE t;have cx:=Qs x;have ca:=DN a.p;have hkl:s.ks.length=hs.length:=by have:=hS.kl;simpa using this
  replace hf:f.has=true:=hf;have hxh:x.has=true:=by rw [<- BB (NC e)];exact hf
  have ha:a.f.has=true:=by rw [BB ea];exact hxh
  have hbh:b.f.has=true:=by rw [BB eb];exact hxh
  have gp:=GT s t n hS.vl.symm hS.ve (by omega) (by rw [hS.vl];omega) h2;have qp:(XR.fit (t.ps s.vs s.dep 0)).Gd s.dep (t.ps s.vs s.dep 0):=TX hS h2;generalize XR.fit (t.ps s.vs s.dep 0)=rp at gp qp;obtain⟨T,g2,z2,ze,zt⟩:=YI h1;obtain⟨r,g1,q1⟩:=YB HT a n hs s h3 ha hS (by omega) (by omega) (by omega) (by omega);cases l
  ·cases rp with
   | er q m=>exact⟨_,As gp,qp⟩
   | ok tp=>cases T with
    | er m=>exact⟨_,Bs gp g2,ze _ rfl⟩
    | ok u =>
     have hu:u.size<=64:=z2
     cases r with
     | er q m=>exact⟨_,Cs gp g2 g1,q1⟩
     | ok v =>
      have S0:=hS.bind.var (t:=.v 0) (WD (by show 0<s.dep+1;omega));have S1:=S0.bind.hyp (t:=.v 0) (WD (by show 0<s.dep+1+1;omega)) true;have gs:=QH s;have gv:=RH s.bind (.v 0) (by rw [hS.bind.vl];omega);have gs3:=QH (s.bind.var (.v 0)) (by show s.dep+1<=qA;omega);have gh:=uQ (s.bind.var (.v 0)).bind (.v 0) (by show s.ks.length<=qA;omega) (by show s.hyps<=qA;omega);obtain⟨r2,g3,q3⟩:=YB HT b (n+1) _ _ h4 hbh (by rw [List.map_append,YG,List.map_cons,hxh];exact S1) (by omega) (by simp;omega) (by show s.dep+1+1+_<=_;omega) (by show s.hyps+1+_<=_;omega);have g:=Ds (tl:=tl) (hs:=hs) (s:=s) (a:=a) (b:=b) (x:=x) (y:=a.f) (z:=b.f) (f:=f) (w:=t) gp qp.1.cnt g2 g1 q1.1.cnt gs gv gs3 gh g3 q3.cn;have q4:((r2.lam u).lam .nat).Gd s.dep _:=TH (by decide) (TH hu q3);refine⟨_,g,?_⟩
      cases e5:(r2.lam u).lam .nat with
      | er q m=>rw [e5] at q4;exact q4
      | ok k =>
       rw [e5] at q4;refine ZL ?_ ⟨q1.1.sc,q4.1.sc,qp.1.sc⟩ (by rw [q1.2,q4.2,qp.2,zt u rfl hxh];rfl);show (Nat.beq u.chk 0 && (_ && (_ && _)))=true;rw [FN hu,q1.1.shp,q4.1.shp,qp.1.shp];rfl
  ·cases rp with
   | er q m=>exact⟨_,Es gp,qp⟩
   | ok tp=>cases T with
    | er m=>exact⟨_,Fs gp g2,ze _ rfl⟩
    | ok u =>
     have hu:u.size<=64:=z2
     cases r with
     | er q m=>exact⟨_,Gs gp g2 g1,q1⟩
     | ok v =>
      have S0:=hS.bind.var (t:=.v 0) (WD (by show 0<s.dep+1;omega));have S2:=S0.bind.var (t:=.v 0) (WD (by show 0<s.dep+1+1;omega));have S1:=S2.bind.hyp (t:=.v 0) (WD (by show 0<s.dep+1+1+1;omega)) true;have gs:=QH s;have gv:=RH s.bind (.v 0) (by rw [hS.bind.vl];omega);have gs2:=QH (s.bind.var (.v 0)) (by show s.dep+1<=qA;omega);have gv2:=RH (s.bind.var (.v 0)).bind (.v 0) (by rw [S0.bind.vl];omega);have gs3:=QH ((s.bind.var (.v 0)).bind.var (.v 0)) (by show s.dep+1+1<=qA;omega);have gh:=uQ ((s.bind.var (.v 0)).bind.var (.v 0)).bind (.v 0) (by show s.ks.length<=qA;omega) (by show s.hyps<=qA;omega);have hxs:(x.sh 1 (.ofNat 1)).has=true:=by rw [BB (QG _ x 1)];exact hxh
      obtain⟨r2,g3,q3⟩:=YB HT b (n+2) _ _ h4 hbh (by rw [List.map_append,YG,List.map_cons,hxs];exact S1) (by omega) (by simp;omega) (by show s.dep+1+1+1+_<=_;omega) (by show s.hyps+1+_<=_;omega);have g:=Hs (tl:=tl) (hs:=hs) (s:=s) (a:=a) (b:=b) (x:=x) (y:=a.f) (z:=b.f) (f:=f) (w:=t) gp qp.1.cnt g2 g1 q1.1.cnt gs gv gs2 gv2 gs3 gh g3 q3.cn;have q4:(((r2.lam u).lam .list).lam .nat).Gd s.dep _:=TH (by decide) (TH (by decide) (TH hu q3));refine⟨_,g,?_⟩
      cases e5:((r2.lam u).lam .list).lam .nat with
      | er q m=>rw [e5] at q4;exact q4
      | ok k =>
       rw [e5] at q4;refine ZL ?_ ⟨q1.1.sc,q4.1.sc,qp.1.sc⟩ (by rw [q1.2,q4.2,qp.2,zt u rfl hxh];rfl);show (Nat.beq u.chk 0 && (_ && (_ && _)))=true;rw [FN hu,q1.1.shp,q4.1.shp,qp.1.shp];rfl
 | .subst x a b f,n,hs,s,⟨h0,h1,h2,h3,eb,t,u,e,e1⟩,hf,hS,hn,hl,hd,hh=>by
  have hm:=jA;simp only [Jt.p,Pf.cnt] at hn hl hd hh;replace hf:f.has=true:=hf;have hbh:b.f.has=true:=by rw [BB eb,<- BB (NC e1)];exact hf
  obtain⟨r,g1,q1⟩:=YB HT b n hs s h3 hbh hS (by omega) (by omega) (by omega) (by omega);exact⟨_,Vr g1,q1⟩
def ZI (ρ:Nat->Nat):Nat->Nat
 | 0=>0
 | n+1=>ρ n+1
def Tm.ren:(Nat->Nat)->Tm->Tm
 | ρ,.v i => .v (ρ i)
 | ρ,.lam s b => .lam s (b.ren (ZI ρ))
 | _,.n0 k => .n0 k
 | ρ,.n1 k a => .n1 k (a.ren ρ)
 | ρ,.n2 k a b => .n2 k (a.ren ρ) (b.ren ρ)
 | ρ,.n3 k s a b c => .n3 k s (a.ren ρ) (b.ren ρ) (c.ren ρ)
def EC (σ:Nat->Tm):Nat->Tm
 | 0 => .v 0
 | n+1=>(σ n).sh 0 (.ofNat 1)
def Tm.sub:(Nat->Tm)->Tm->Tm
 | σ,.v i=>σ i
 | σ,.lam s b => .lam s (b.sub (EC σ))
 | _,.n0 k => .n0 k
 | σ,.n1 k a => .n1 k (a.sub σ)
 | σ,.n2 k a b => .n2 k (a.sub σ) (b.sub σ)
 | σ,.n3 k s a b c => .n3 k s (a.sub σ) (b.sub σ) (c.sub σ)
theorem mG (k:Nat):∀ (t:Tm) (c:Nat),t.sh c (.ofNat k)=t.ren λ i=>if c<=i then i+k else i
 | .v i,c=>by simp only [Tm.sh,Tm.ren];split<;>rfl
 | .lam s b,c=>by
  simp only [Tm.sh,Tm.ren,mG k b];congr 2;funext i
  cases i with
  | zero=>rfl
  | succ i=>simp only [ZI];split<;>split<;>omega
 | .n0 _,_=>rfl
 | .n1 _ a,c=>by simp only [Tm.sh,Tm.ren,mG k a]
 | .n2 _ a b,c=>by simp only [Tm.sh,Tm.ren,mG k a,mG k b]
 | .n3 _ _ a b d,c=>by simp only [Tm.sh,Tm.ren,mG k a,mG k b,mG k d]
theorem vM (t:Tm):t.sh 0 (.ofNat 1)=t.ren (· + 1):=by
 rw [mG];congr 1
theorem qJ:∀ (t:Tm) (ρ τ:Nat->Nat),(t.ren ρ).ren τ=t.ren λ i=>τ (ρ i)
 | .v i,_,_=>rfl
 | .lam s b,ρ,τ=>by
  simp only [Tm.ren,qJ b];congr 2;funext i;cases i<;>rfl
 | .n0 _,_,_=>rfl
 | .n1 _ a,_,_=>by simp only [Tm.ren,qJ a]
 | .n2 _ a b,_,_=>by simp only [Tm.ren,qJ a,qJ b]
 | .n3 _ _ a b d,_,_=>by simp only [Tm.ren,qJ a,qJ b,qJ d]
theorem DK:∀ (t:Tm) (ρ:Nat->Nat) (σ:Nat->Tm),(t.ren ρ).sub σ=t.sub λ i=>σ (ρ i)
 | .v i,_,_=>rfl
 | .lam s b,ρ,σ=>by
  simp only [Tm.ren,Tm.sub,DK b];congr 2;funext i;cases i<;>rfl
 | .n0 _,_,_=>rfl
 | .n1 _ a,_,_=>by simp only [Tm.ren,Tm.sub,DK a]
 | .n2 _ a b,_,_=>by simp only [Tm.ren,Tm.sub,DK a,DK b]
 | .n3 _ _ a b d,_,_=>by simp only [Tm.ren,Tm.sub,DK a,DK b,DK d]
theorem EK:∀ (t:Tm) (σ:Nat->Tm) (ρ:Nat->Nat),(t.sub σ).ren ρ=t.sub λ i=>(σ i).ren ρ
 | .v i,_,_=>rfl
 | .lam s b,σ,ρ=>by
  simp only [Tm.ren,Tm.sub,EK b];congr 2;funext i
  cases i with
  | zero=>rfl
  | succ i=>simp only [EC,vM,qJ];rfl
 | .n0 _,_,_=>rfl
 | .n1 _ a,_,_=>by simp only [Tm.ren,Tm.sub,EK a]
 | .n2 _ a b,_,_=>by simp only [Tm.ren,Tm.sub,EK a,EK b]
 | .n3 _ _ a b d,_,_=>by simp only [Tm.ren,Tm.sub,EK a,EK b,EK d]
theorem nG:∀ (t:Tm) (σ τ:Nat->Tm),(∀ i,t.occ i≠0->σ i=τ i)->t.sub σ=t.sub τ
 | .v i,_,_,h=>h i (by simp [Tm.occ])
 | .lam s b,σ,τ,h=>by
  simp only [Tm.sub];rw [nG b (EC σ) (EC τ) λ i hi=>by
   cases i with
   | zero=>rfl
   | succ i=>simp only [EC];rw [h i hi]]
 | .n0 _,_,_,_=>rfl
 | .n1 _ a,_,_,h=>by simp only [Tm.sub];rw [nG a _ _ h]
 | .n2 _ a b,_,_,h=>by
  simp only [Tm.sub];rw [nG a _ _ λ i hi=>h i (by simp only [Tm.occ];omega),nG b _ _ λ i hi=>h i (by simp only [Tm.occ];omega)]
 | .n3 _ _ a b d,_,_,h=>by
  simp only [Tm.sub];rw [nG a _ _ λ i hi=>h i (by simp only [Tm.occ];omega),nG b _ _ λ i hi=>h i (by simp only [Tm.occ];omega),nG d _ _ λ i hi=>h i (by simp only [Tm.occ];omega)]
theorem Rs:EC Tm.v=Tm.v:=by
 funext i
 cases i with
 | zero=>rfl
 | succ i=>simp [EC,Tm.sh]
theorem zJ:∀ t:Tm,t.sub Tm.v=t
 | .v _=>rfl
 | .lam s b=>by simp only [Tm.sub,Rs,zJ b]
 | .n0 _=>rfl
 | .n1 _ a=>by simp only [Tm.sub,zJ a]
 | .n2 _ a b=>by simp only [Tm.sub,zJ a,zJ b]
 | .n3 _ _ a b d=>by simp only [Tm.sub,zJ a,zJ b,zJ d]
theorem UX {t:Tm} {n i:Nat} (h:t.sc n) (ho:t.occ i≠0):i<n:=by
 have:=(KH t _).1 h;rcases Nat.lt_or_ge i n with h|h
 ·exact h
 ·exact absurd (QI t i (by omega)) ho
theorem bQ (t:Tm) (k:Nat):(t.sh 0 (.ofNat k)).sh 0 (.ofNat 1)=t.sh 0 (.ofNat (k+1)):=by
 rw [vM,mG k t,qJ,mG];congr 1
theorem RE (vs:List (Tm × Nat)) (d:Nat):∀ (t:Tm) (b:Nat),t.ps vs d b=t.sub λ i=>(Tm.v i).ps vs d b
 | .v i,_=>rfl
 | .lam s t,b=>by
  simp only [Tm.ps,Tm.sub];rw [RE vs d t (b+1)];congr 2;funext i
  cases i with
  | zero=>simp [Tm.ps,EC]
  | succ i =>
   simp only [Tm.ps,EC,Nat.add_lt_add_iff_right,Nat.add_sub_add_right];split
   ·simp [Tm.sh]
   ·split
    ·rw [bQ];rfl
    ·simp [Tm.sh]
 | .n0 _,_=>rfl
 | .n1 _ a,b=>by simp only [Tm.ps,Tm.sub];rw [RE vs d a b];rfl
 | .n2 _ x y,b=>by simp only [Tm.ps,Tm.sub];rw [RE vs d x b,RE vs d y b];rfl
 | .n3 _ _ x y z,b=>by simp only [Tm.ps,Tm.sub];rw [RE vs d x b,RE vs d y b,RE vs d z b];rfl
theorem UH (c:Nat) (S:Tm):∀ (t:Tm) (d:Nat),t.put c S d=t.sub λ i=>(Tm.v i).put c S d
 | .v i,_=>rfl
 | .lam s t,d=>by
  simp only [Tm.put,Tm.sub];rw [UH c S t (d+1)];congr 2;funext i
  cases i with
  | zero =>
   simp only [Tm.put,EC];rw [if_neg (by omega),if_neg (by omega)]
  | succ i =>
   simp only [Tm.put,EC];by_cases e:i=c+d
   ·rw [if_pos (by omega),if_pos e,bQ];rfl
   ·rw [if_neg (by omega),if_neg e];by_cases e':c+d<i
    ·rw [if_pos (by omega),if_pos e'];simp only [Tm.sh,Nat.zero_le,if_true];congr 1;show i=(Int.ofNat (i-1)+Int.ofNat 1).toNat;simp;omega
    ·rw [if_neg (by omega),if_neg e'];simp [Tm.sh]
 | .n0 _,_=>rfl
 | .n1 _ a,d=>by simp only [Tm.put,Tm.sub];rw [UH c S a d];rfl
 | .n2 _ x y,d=>by simp only [Tm.put,Tm.sub];rw [UH c S x d,UH c S y d];rfl
 | .n3 _ _ x y z,d=>by simp only [Tm.put,Tm.sub];rw [UH c S x d,UH c S y d,UH c S z d];rfl
open Go.Lg
theorem ZG:∀ f:Fm,f.er.cty=f.cty
 | .eq _ _=>rfl
 | .bin k f g=>by cases k<;>simp only [Fm.er,Fm.cty,OG,ZG f,ZG g]
 | .q k _ f=>by cases k<;>simp only [Fm.er,Fm.cty,OG,ZG f]
theorem eF {f g:Fm} (e:f.er=g.er):f.cty=g.cty:=(ZG f).symm.trans ((congrArg Fm.cty e).trans (ZG g))
theorem wM {vs:List (Tm × Nat)} {d i:Nat} {e:Tm × Nat} (h:ent vs i=some e):(Tm.v i).ps vs d 0=e.1.sh 0 (.ofNat (d-e.2)):=by
 simp only [Tm.ps,Nat.not_lt_zero,if_false,Nat.sub_zero,h,Nat.add_zero]
theorem Ss {vs:List (Tm × Nat)} {d:Nat} (hv:aK d vs) {t:Tm} (ht:t.sc vs.length):t.ps vs (d+1) 0=(t.ps vs d 0).sh 0 (.ofNat 1):=by
 rw [RE,RE vs d t,vM,EK];refine nG _ _ _ λ i hi => ?_
 obtain⟨e,h,hm⟩:=yQ (UX ht hi);rw [wM h,wM h,<- vM,bQ,show d+1-e.2=d-e.2+1 by have:=(hv e hm).1;omega]
theorem Ts (vs:List (Tm × Nat)) (d:Nat) (e:Tm × Nat) {t:Tm} (ht:t.sc vs.length):(t.sh 0 (.ofNat 1)).ps (vs++[e]) d 0=t.ps vs d 0:=by
 rw [RE,vM,DK,RE vs];refine nG _ _ _ λ i hi => ?_
 obtain⟨x,h,_⟩:=yQ (UX ht hi);rw [wM h,wM (e:=x) (by rw [pr];exact h)]
theorem Us {n:Nat} {bs:List Bool} {s:Sc} (h:ScOK n bs s) (i:Nat):s.bind.hy i=(s.hy i).sh 0 (.ofNat 1):=by
 unfold Sc.hy;show (match s.ks[s.ks.length-1-i]? with|some (.hy t d _)=>t.sh 0 (.ofNat (s.dep+1-d))|_ => .n0 .unit)=_
 cases e:s.ks[s.ks.length-1-i]? with
 | none=>rfl
 | some x=>cases x with
  | bare p=>rfl
  | hy t d p =>
   have:=(h.ke _ (List.mem_of_getElem? e) t d p rfl).1;simp only;rw [bQ,show s.dep+1-d=s.dep-d+1 by omega]
theorem Vs (vs:List (Tm × Nat)) (d:Nat) (t:Tm):(Tm.v 0).ps (vs++[(t,d)]) d 0=t:=by
 rw [wM (nr vs (t,d))];show t.sh 0 (.ofNat (d-d))=t;rw [Nat.sub_self,tF]
theorem Ws (s:Sc) (x:Hy) (d h:Nat) (i:Nat) (hi:i<s.ks.length:=by omega):(⟨s.dep,h,s.vs,s.ks++[x]⟩:Sc).hy (i+1)=s.hy i:=by
 unfold Sc.hy;simp only [List.length_append,List.length_cons,List.length_nil];rw [show s.ks.length+(0+1)-1-(i+1)=s.ks.length-1-i by omega,List.getElem?_append_left (by omega)]
theorem Xs (s:Sc) (x:Hy) (h:Nat):(⟨s.dep,h,s.vs,s.ks++[x]⟩:Sc).hy 0=match x with | .hy t d _=>t.sh 0 (.ofNat (s.dep-d))|_ => .n0 .unit:=by
 unfold Sc.hy;simp only [List.length_append,List.length_cons,List.length_nil];rw [show s.ks.length+(0+1)-1-0=s.ks.length by omega,List.getElem?_append_right (Nat.le_refl _),Nat.sub_self];cases x<;>rfl
open Go.Lg
theorem IN (hs:List Fm) (x:Fm) (k:Nat):(lA k hs++[x]).map Fm.has=hs.map Fm.has++[x.has]:=by
 rw [List.map_append,YG];rfl
def SE (d:Nat):Nat->Nat->List (Tm × Nat)
 | _,0=>[]
 | i,n+1=>(.v (d-1-i),d)::SE d (i+1) n
abbrev GK:List PV:=[.int 0,.int 0,.nils,.nils]
abbrev Nf (c a i v:Nat) (A:List (List PV)):IS:=st [(4,.loc 0 0),(5,.loc 1 0),(11,.pv (num a)),(12,.pv (num i))] [(0,bx GK),(1,.box [.pv (num c),.pv (num 0),.arr 2 v A.length,.pv .nils]),(2,.arr v 6 178 (vA A))] 3 []
abbrev Qf:Kp:=⟨[4,5,11,12],[0,1,2],3,[]⟩
theorem Rf (c a:Nat) (hc:c<=qA) (ha:a<=c):∀ (r i v:Nat) (A:List (List PV)),i+r=a->A.length=i ->
  ∃ v',Lp 39 0 0 (Nf c a i v A) (.exit 0) (st [(4,.loc 0 0),(5,.loc 1 0)] [(0,bx GK),(1,.box [.pv (num c),.pv (num 0),.arr 2 v' (A.length+r),.pv .nils]),(2,.arr v' 6 178 (vA (A++(SE c i r).map ec)))] 3 [])
 | 0,i,v,A,h,hA=>by
  have e:kA (.ofNat i) (.ofNat a)=false:=CA;simp only [SE,List.map_nil,List.append_nil,Nat.add_zero];exact⟨v,y1 [(13,.H)] ⟨[4,5],[0,1,2],3,[]⟩ e (MC A)⟩
 | r+1,i,v,A,h,hA=>by
  have hm:=jA;have hb:=uA;have e:kA (.ofNat i) (.ofNat a)=true:=aA;have g1:=nB (a:=c);have g2:rA (Int.ofNat (c-1) - .ofNat i)=true/\Int.ofNat (c-1) - .ofNat i = .ofNat (c-1-i):=by
   have e:Int.ofNat (c-1) - .ofNat i = .ofNat (c-1-i):=by simp;omega
   exact⟨by rw [e];exact eA,e⟩
  have g5:=PL (A:=A) (v:=v) (ty:=178) (m:=80) (c:=ec (.v (c-1-i),c)) (show 0<6 by decide) rfl rfl (by simp only [maxLen];omega);have g6:=AA (a:=i) (b:=1);obtain⟨v',ih⟩:=Rf c a hc ha r (i+1) (v+1) (A++[ec (.v (c-1-i),c)]) (by omega) (by simp [hA]);dsimp only [Nf] at ih;rw [LI,show (A++[ec (.v (c-1-i),c)]).length=A.length+1 by simp,show A.length+1+r=A.length+(r+1) by omega,List.append_assoc] at ih;exact⟨v',n8 [(13,.G),(19,.z (c-1)),(21,.z (c-1-i)),(22,.r (Tm.v (c-1-i)).p),(27,.ok),(29,.z (i+1))] Qf e g1 g2 (GB (c-1-i)) g5 g6 (rF A (ec (.v (c-1-i),c))) ih⟩
abbrev ZB (a b:Nat):Sc:=⟨a+b,0,SE (a+b) 0 a,[]⟩
theorem VX (d:Nat):∀ (n i:Nat),(SE d i n).length=n
 | 0,_=>rfl
 | n+1,i=>by simp [SE,VX d n]
theorem Ys (a b:Nat) (h:a+b<=qA):A 39 [num a,num b] (ZB a b).p:=by
 have hm:=jA;have hb:=uA;have g0:=AA (a:=a) (b:=b)
 cases a with
 | zero =>
  have h1:Lp 39 0 0 (st [(4,.loc 0 0),(5,.loc 1 0),(11,.pv (num 0)),(12,.pv (num 0))] [(0,bx GK),(1,bx [num (0+b),num 0,.nils,.nils])] 2 []) (.exit 0) (st [(4,.loc 0 0),(5,.loc 1 0)] [(0,bx GK),(1,bx [num (0+b),num 0,.nils,.nils])] 2 []) :=
   x0 [] ⟨[4,5],[0,1],2,[]⟩
  exact f2 [(9,.z (0+b)),(100003,.l ⟨[4,5,11,12],[0,1],2,[]⟩ (.exit 0) (st [(4,.loc 0 0),(5,.loc 1 0)] [(0,bx GK),(1,bx [num (0+b),num 0,.nils,.nils])] 2 []))] g0 h1
 | succ a =>
  generalize hc:a+1+b=c at *
  obtain⟨v,h1⟩:=Rf c (a+1) (by omega) (by omega) a 1 1 [ec (.v (c-1-0),c)] (by omega) rfl;have em : [ec (.v (c-1-0),c)]++(SE c 1 a).map ec=(SE c 0 (a+1)).map ec:=rfl;rw [em] at h1;have h2:=LoopIs.fz (by simp) h1 2 (ver:=v) (sz:=6) (ty:=178) (ps:=(SE c 0 (a+1)).map ec) rfl (by kernel_rfl);have el:(([ec (.v (c-1-0),c)]:List (List PV)).length+a)=a+1:=by simp;omega
  rw [el] at h2;simp (decide:=true) only [uE,CD,rC,JC,LD,List.map,pD,and_self,↓reduceIte,List.take_of_length_le (show ((SE c 0 (a+1)).map ec).length<=a+1 by simp [VX])] at h2;have e:kA (.ofNat 0) (.ofNat (a+1))=true:=aA;have g1:=nB (a:=c);have g2:rA (Int.ofNat (c-1) - .ofNat 0)=true/\Int.ofNat (c-1) - .ofNat 0 = .ofNat (c-1-0):=by
   have e:Int.ofNat (c-1) - .ofNat 0 = .ofNat (c-1-0):=by simp
   exact⟨by rw [e];exact eA,e⟩
  have h3:Lp 39 0 0 (st [(4,.loc 0 0),(5,.loc 1 0),(11,.pv (num (a+1))),(12,.pv (num 0))] [(0,bx GK),(1,bx [num c,num 0,.nils,.nils])] 2 []) (.exit 0) (st [(4,.loc 0 0),(5,.loc 1 0)] [(0,bx GK),(1,bx [num c,num 0,.slice ((SE c 0 (a+1)).map ec),.nils])] 3 []) :=
   n6 [(13,.G),(19,.z (c-1)),(21,.z (c-1-0)),(22,.r (Tm.v (c-1-0)).p)] Qf e g1 g2 (GB (c-1-0)) (rF [] (ec (.v (c-1-0),c))) h2
  exact f2 [(9,.z c),(100003,.l ⟨[4,5,11,12],[0,1],2,[]⟩ (.exit 0) (st [(4,.loc 0 0),(5,.loc 1 0)] [(0,bx GK),(1,bx [num c,num 0,.slice ((SE c 0 (a+1)).map ec),.nils])] 3 []))] g0 h3
theorem Sf (g:List Ty) (hg:g.length<=16):A 20 [VA g []] (ZB g.length 0).p:=by
 have hm:=jA;have g1:=Ys (g.map Ty.c).length 0 (by simp;omega);rw [show ZB (g.map Ty.c).length 0=ZB g.length 0 by simp] at g1;exact f1 [(36,.r (ZB g.length 0).p)] g1
open Go.Lg
theorem Tf (d:Nat):∀ (n i:Nat) (e:Tm × Nat),e∈SE d i n->∃ k,e=(.v (d-1-k),d)
 | 0,_,_,h=>by cases h
 | n+1,i,e,h=>by
  rcases List.mem_cons.1 h with rfl|h
  ·exact⟨i,rfl⟩
  ·exact Tf d n (i+1) e h
theorem WX (a b:Nat):ScOK a [] (ZB a b):=by
 refine⟨VX _ _ _,rfl,λ e he => ?_,(λ h hh=>by cases hh),λ i hi=>by simp at hi⟩
 cases a with
 | zero=>cases he
 | succ a =>
  obtain⟨k,rfl⟩:=Tf _ _ _ _ he;exact⟨Nat.le_refl _,WD⟩
abbrev XX (ls hs:List Fm) (g:List Ty) (k:Nat):IS:=st [(3,.loc 0 0),(15,.pv (fA ls)),(16,.pv (num (ls.map Fm.c).length)),(17,.pv (num k))] [(0,bx [cA g,fA hs])] 1 []
abbrev kM (hs:List Fm) (g:List Ty):IS:=st [(3,.loc 0 0)] [(0,bx [cA g,fA hs])] 1 []
theorem Uf (hs:List Fm) (g:List Ty) {ls:List Fm} (hl:ls.length<=qA):∀ (r:List Fm) (k:Nat),ls.drop k=r->(∀ f∈r,f.cnt+1024<=qA/\f.tsz<=qA) ->
  (Lp 77 0 0 (XX ls hs g k) (.exit 0) (kM hs g) /\ ∀ f∈r,f.chk=0) \/ ∃ e,Lp 77 0 0 (XX ls hs g k) .ret (st [(4,.pv (num (e+1)))] [] 1 [])
 | [],k,h,_ => .inl ⟨x1 [(18,.H)] ⟨[3],[0],1,[]⟩ (show kA (.ofNat k) (.ofNat (ls.map Fm.c).length)=false from CA (by simpa using TC h)),λ f h=>by cases h⟩
 | f::r,k,h,hb=>by
  obtain⟨h1,h2,h3⟩:=SC h;have hm:=jA;have hlt:kA (.ofNat k) (.ofNat (ls.map Fm.c).length)=true:=aA (by simpa using h2);have hf:=hb f (by simp);obtain⟨e,g1,q1⟩:=ES [] f (λ s h=>by cases h) hf.2 (by have:=hf.1;simp;omega)
  cases e with
  | succ e=>exact .inr ⟨e,x3 [(18,.G),(19,.i f.c),(22,.N (e+1))] ⟨[4],[],1,[]⟩ hlt (KA h1 Fm.c_len) g1⟩
  | zero =>
   have q2:=(q1 rfl).1;rcases Uf hs g hl r (k+1) h3 (λ t ht=>hb t (by simp [ht])) with ⟨ih,q⟩|⟨e,ih⟩
   ·refine .inl ⟨n5 [(18,.G),(19,.i f.c),(22,.N 0),(26,.ok)] ⟨[3,15,16,17],[0],1,[]⟩ hlt (KA h1 Fm.c_len) g1 (eA (show k+1<=_ by omega)) ih,λ x hx => ?_⟩;rcases List.mem_cons.1 hx with rfl|hx
    ·exact q2
    ·exact q x hx
   ·exact .inr ⟨e,n5 [(18,.G),(19,.i f.c),(22,.N 0),(26,.ok)] ⟨[3,15,16,17],[0],1,[]⟩ hlt (KA h1 Fm.c_len) g1 (eA (show k+1<=_ by omega)) ih⟩
abbrev YX (hs:List Fm) (g:List Ty) (k:Nat):IS:=st [(3,.loc 0 0),(38,.pv (fA hs)),(39,.pv (num (hs.map Fm.c).length)),(40,.pv (num k))] [(0,bx [cA g,fA hs])] 1 []
theorem Vf (g:List Ty) (hg:∀ s∈g,s.size<=qA) (hgl:g.length<=1024) {hs:List Fm} (hl:hs.length<=qA):∀ (r:List Fm) (k:Nat),hs.drop k=r->(∀ f∈r,f.cnt+1024<=qA/\f.tsz<=qA) ->
  (Lp 77 1 0 (YX hs g k) (.exit 2) (st [] [] 1 []) /\ ∀ f∈r,f.chk=0) \/ ∃ e,Lp 77 1 0 (YX hs g k) .ret (st [(4,.pv (num (e+1)))] [] 1 [])
 | [],k,h,_ => .inl ⟨x1 [(41,.H)] ⟨[],[],1,[]⟩ (show kA (.ofNat k) (.ofNat (hs.map Fm.c).length)=false from CA (by simpa using TC h)),λ f h=>by cases h⟩
 | f::r,k,h,hb=>by
  obtain⟨h1,h2,h3⟩:=SC h;have hm:=jA;have hlt:kA (.ofNat k) (.ofNat (hs.map Fm.c).length)=true:=aA (by simpa using h2);have hf:=hb f (by simp);obtain⟨e,g1,q1⟩:=ES g f hg hf.2 (by have:=hf.1;omega)
  cases e with
  | succ e=>exact .inr ⟨e,x3 [(41,.G),(42,.i f.c),(47,.N (e+1))] ⟨[4],[],1,[]⟩ hlt (KA h1 Fm.c_len) g1⟩
  | zero =>
   have q2:=(q1 rfl).1;rcases Vf g hg hgl hl r (k+1) h3 (λ t ht=>hb t (by simp [ht])) with ⟨ih,q⟩|⟨e,ih⟩
   ·refine .inl ⟨n5 [(41,.G),(42,.i f.c),(47,.N 0),(51,.ok)] ⟨[3,38,39,40],[0],1,[]⟩ hlt (KA h1 Fm.c_len) g1 (eA (show k+1<=_ by omega)) ih,λ x hx => ?_⟩;rcases List.mem_cons.1 hx with rfl|hx
    ·exact q2
    ·exact q x hx
   ·exact .inr ⟨e,n5 [(41,.G),(42,.i f.c),(47,.N 0),(51,.ok)] ⟨[3,38,39,40],[0],1,[]⟩ hlt (KA h1 Fm.c_len) g1 (eA (show k+1<=_ by omega)) ih⟩
structure Wf (ls:List Fm) (g:List Ty) (hs:List Fm):Prop where
 ls:∀ f∈ls,f.chk=0
 gl:g.length<=16
 gs:∀ s∈g,s.size<=64
 hl:hs.length<=16
 hs:∀ f∈hs,f.chk=0
theorem Zs (ls:List Fm) (g:List Ty) (hs:List Fm) (hl1:∀ f∈ls,f.cnt+1024<=qA/\f.tsz<=qA) (hl2:∀ f∈hs,f.cnt+1024<=qA/\f.tsz<=qA) (hg:∀ s∈g,s.size<=qA) (hgl:g.length<=1024:=by omega) (h1:ls.length<=qA:=by omega) (h2:hs.length<=qA:=by omega):∃ e,A 77 [fA ls,VA g hs] (num e)/\(e=0->Wf ls g hs):=by
 have hm:=jA;have hb:=uA;cases e0:kA (.ofNat 32) (.ofNat (ls.map Fm.c).length);rotate_left
 ·exact⟨3,f1 [(14,.G)] e0,nofun⟩
 rcases Uf hs g h1 ls 0 rfl hl1 with ⟨g1,q1⟩|⟨e,g1⟩;rotate_left
 ·exact⟨e+1,f2 [(14,.H),(100004,.l ⟨[3,15,16,17],[0],1,[]⟩ .ret (st [(4,.pv (num (e+1)))] [] 1 []))] e0 g1,nofun⟩
 have g2:=YM g (λ s h=>by have:=hg s h;omega)
 cases e2:oI g with
 | succ e =>
  rw [e2] at g2;exact⟨e+1,f3 [(14,.H),(100004,.l ⟨[3,15,16,17],[0],1,[]⟩ (.exit 0) (kM hs g)),(29,.N (e+1))] e0 g1 g2,nofun⟩
 | zero =>
  rw [e2] at g2;obtain⟨c1,c2⟩:=Eo e2;cases e3:kA (.ofNat 16) (.ofNat (hs.map Fm.c).length);rotate_left
  ·exact⟨3,f4 [(14,.H),(100004,.l ⟨[3,15,16,17],[0],1,[]⟩ (.exit 0) (kM hs g)),(29,.N 0),(36,.G)] e0 g1 g2 e3,nofun⟩
  have c3:hs.length<=16:=by
   rw [KB] at e3;simp at e3;omega
  rcases Vf g hg hgl h2 hs 0 rfl hl2 with ⟨g4,q4⟩|⟨e,g4⟩
  ·exact⟨0,f5 [(14,.H),(100004,.l ⟨[3,15,16,17],[0],1,[]⟩ (.exit 0) (kM hs g)),(29,.N 0),(36,.H),(100016,.l ⟨[3,38,39,40],[0],1,[]⟩ (.exit 2) (st [] [] 1 []))] e0 g1 g2 e3 g4,λ _=>⟨q1,c1,c2,c3,q4⟩⟩
  ·exact⟨e+1,f5 [(14,.H),(100004,.l ⟨[3,15,16,17],[0],1,[]⟩ (.exit 0) (kM hs g)),(29,.N 0),(36,.H),(100016,.l ⟨[3,38,39,40],[0],1,[]⟩ .ret (st [(4,.pv (num (e+1)))] [] 1 []))] e0 g1 g2 e3 g4,nofun⟩
theorem Xf:∀ u:List Nat,bC 1 (vA (u.map ic))=true/\SB (vA (u.map ic))=true
 | []=>⟨rfl,rfl⟩
 | n::r=>Xf r
structure jt (X:Nat) (ls:List Fm) (g:List Ty) (hs:List Fm) (p:Pf):Prop where
 l1:∀ f∈ls,f.cnt+1024<=qA/\f.tsz<=qA/\f.mx<=X
 h1:∀ f∈hs,f.cnt+1024<=qA/\f.tsz<=qA/\f.mx<=X
 g1:∀ s∈g,s.size<=qA
 gl:g.length<=1024
 hl:hs.length<=1000
 ll:ls.length<=1024
 cnt:p.cnt<=dA
 tsz:p.tsz<=qA
 mx:p.mx<=X
 X:X+mA * 16384<=fB
theorem Yf (H:MF) {X:Nat} {ls:List Fm} {g:List Ty} {hs:List Fm} {p:Pf} (hb:jt X ls g hs p):∃ r:PR,A 30 [fA ls,VA g hs,p.p] r.p /\ ∀ f u,r = .ok f u->Wf ls g hs/\p.ck/\p.cnt<=16384/\FO (X+mA * 16384) f/\(∃ j:Jt,j.p=p/\j.f=f/\j.D ls g hs /\ ∀ v,j.us v->v∈u)/\u.length<=16384:=by
 have hm:=jA;have b1:=hb.gl;have b2:=hb.hl;have b3:=hb.ll;obtain⟨e,g1,q1⟩:=Zs ls g hs (λ f hf=>⟨(hb.l1 f hf).1,(hb.l1 f hf).2.1⟩) (λ f hf=>⟨(hb.h1 f hf).1,(hb.h1 f hf).2.1⟩) hb.g1
 cases e with
 | succ e=>exact⟨.er e,f1 [(14,.N (e+1))] g1,λ f u h=>by cases h⟩
 | zero =>
  have hq:=q1 rfl;obtain⟨e,g2,q2⟩:=In p hb.cnt hb.tsz
  cases e with
  | succ e=>exact⟨.er e,f2 [(14,.N 0),(20,.N (e+1))] g1 g2,λ f u h=>by cases h⟩
  | zero =>
   obtain⟨hk,hc⟩:=q2 rfl;have hX:=hb.X;have c1:mA * p.cnt<=mA * 16384:=Nat.mul_le_mul_left _ hc;have hpre:Pre ls g hs X p:=⟨λ f hf=>⟨(Fm.chk0 (hq.ls f hf)).1,(hb.l1 f hf).2.2,(hb.l1 f hf).2.1⟩,λ f hf=>⟨(Fm.chk0 (hq.hs f hf)).1,(hb.h1 f hf).2.2,(hb.h1 f hf).2.1⟩,hb.g1,hb.gl,hb.hl,hb.ll,by omega,hb.tsz,hb.mx,by omega⟩;obtain⟨r,g3,q3⟩:=GE H p ls g hs X hpre
   cases r with
   | er n=>exact⟨.er n,f3 [(14,.N 0),(20,.N 0),(33,.r (PR.er n).p)] g1 g2 g3,λ f u h=>by cases h⟩
   | ok f u =>
    obtain⟨k1,k3,k2,k4,k5⟩:=q3;obtain⟨s1,s2⟩:=Xf u;have g5:(Nat.blt 0 1 && bC 1 (vA (u.map ic)) && SB (vA (u.map ic)) && Nat.ble (vA (u.map ic)).length maxLen && Nat.ble ((vA (u.map ic)).length * 8) 140737488355328)=true:=by
     rw [s1,s2,pvE_len,List.length_map,Nat.ble_eq_true_of_le (show u.length<=maxLen by simp only [maxLen];omega),Nat.ble_eq_true_of_le (show u.length * 8<=140737488355328 by omega)];rfl
    have g6:A 30 [fA ls,VA g hs,p.p] (.tuple [.agg [num f.kd,num f.tk,.slice f.te,.slice f.ts,.slice f.es,.slice (List.take (vA (u.map ic)).length (u.map ic))],num 0]) :=
     f6 [(14,.N 0),(20,.N 0),(33,.r (PR.ok f u).p),(42,.r f.p),(45,.ok),(300010,.f 4 (u.map ic))] g1 g2 g3 (MB f) g5 (rfl:vA (u.map ic)=vA (u.map ic))
    rw [pvE_len,List.take_length] at g6;refine⟨.ok f u,g6,λ f' u' h => ?_⟩;cases h;exact⟨hq,hk,hc,⟨k1.1,by have:=k1.2.1;omega,k1.2.2⟩,k3,by omega⟩
open Go.Lg
def Fm.csz:Fm->Nat
 | .eq _ _=>1
 | .bin _ f g=>1+f.csz+g.csz
 | .q _ s f=>1+s.size+f.csz
end Go.Proofs.YtmkajedkflhbgaaGreatDoor
namespace Go.Proofs.YtmkajedkflhbgaaGreatDoor
open Go.Lg
set_option maxRecDepth 100000
abbrev jJ (z:Int):List PV:=[.int z]
theorem wt (z:Int):(jJ z).length=1:=rfl
abbrev dk (L:List Int) (a:Nat):Ob:=bx [.slice (L.map jJ),num a]
abbrev _root_.Go.Lg.De.D (L:List Int) (b:Nat) (x:V):De:=.d 0 (dk L b) x
structure Dk (L:List Int):Prop where
 len:L.length<=500
 rng:∀ z∈L,-9223372036854775808<=z/\z<=9223372036854775807
theorem yt (z:Int) (k:Nat) (h:1<=k) (hk:k<=qA) (hz : -9223372036854775808<=z/\z<=9223372036854775807):∃ x,x<k/\A 28 [.int z,num k] (num x):=by
 have hm:=jA;have h0:(!lB (.ofNat k) 0)=true:=by
  rw [fH];simp;omega
 have hb : -(k:Int)<z.tmod (.ofNat k)/\z.tmod (.ofNat k)<k:=by
  constructor
  ·have:=Int.lt_tmod_of_pos z (show (0:Int) < .ofNat k by simp;omega);simpa using this
  ·have:=Int.tmod_lt_of_pos z (show (0:Int) < .ofNat k by simp;omega);simpa using this
 have e0:0<=z.tmod (.ofNat k) + .ofNat k:=by
  show (0:Int)<=z.tmod (.ofNat k)+(k:Int);omega
 have e1:0<=(z.tmod (.ofNat k) + .ofNat k).tmod (.ofNat k)/\(z.tmod (.ofNat k) + .ofNat k).tmod (.ofNat k)<k:=by
  refine⟨Int.tmod_nonneg _ e0,?_⟩;have:=Int.tmod_lt_of_pos (z.tmod (.ofNat k) + .ofNat k) (show (0:Int) < .ofNat k by simp;omega);simpa using this
 have e2:z.tmod (.ofNat k) + .ofNat k<=1152921504606846976:=by
  show z.tmod (.ofNat k)+(k:Int)<=_;omega
 obtain⟨x,hx⟩:=Int.eq_ofNat_of_zero_le e1.1;have g1:(!lB (.ofNat k) 0)=true/\z.tmod (.ofNat k)=z.tmod (.ofNat k):=⟨h0,rfl⟩;have g2:rA (z.tmod (.ofNat k) + .ofNat k)=true/\z.tmod (.ofNat k) + .ofNat k=z.tmod (.ofNat k) + .ofNat k:=⟨qN (by omega) e2,rfl⟩;have g3:(!lB (.ofNat k) 0)=true/\(z.tmod (.ofNat k) + .ofNat k).tmod (.ofNat k) = .ofNat x:=⟨h0,hx⟩;exact⟨x,by omega,f3 [(7,.y (z.tmod (.ofNat k))),(9,.y (z.tmod (.ofNat k) + .ofNat k)),(11,.z x)] g1 g2 g3⟩
theorem nx {L:List Int} (hL:Dk L) {a:Nat} (ha:a<=L.length) {n:Nat} (h1:1<=n) (h2:n<=qA):∃ x b,x<n/\b<=L.length/\O 14 [.loc 0 0,.pv (num n)] [(0,dk L a)] (.pv (num x)) [(0,dk L b)]:=by
 have hl:=hL.len;have hb:=uA;have g0:kA (.ofNat n) 1=false:=by rw [KB];simp;omega
 by_cases h:a=L.length
 ·have g1:(!kA (.ofNat a) (.ofNat (L.map jJ).length))=true:=iH (by simp;omega);exact⟨0,a,by omega,ha,o2 1 [(7,.H),(18,.G)] g0 g1⟩
 ·have g1:(!kA (.ofNat a) (.ofNat (L.map jJ).length))=false:=lF (by simp;omega);obtain⟨z,hz⟩:∃ z,L[a]? = some z:=⟨_,List.getElem?_eq_getElem (by omega)⟩;obtain⟨x,hx,g2⟩:=yt z n h1 h2 (hL.rng z (List.mem_of_getElem? hz));exact⟨x,a+1,hx,by omega,o5 1 [(7,.H),(18,.H),(28,.i (jJ z)),(34,.z (a+1)),(39,.N x)] g0 g1 (KA hz wt) (AA (a:=a) (b:=1)) g2⟩
theorem iA:A 54 [] Ty.nat.p:=f0 []
theorem HK:A 73 [] Ty.list.p:=f0 []
theorem bt:A 112 [] Ty.unit.p:=f0 []
def JN:Nat->Nat
 | 0=>1
 | k+1=>1+2 * JN k
theorem ot (k:Nat):1<=JN k:=by cases k<;>simp [JN]
theorem WC {L:List Int} (hL:Dk L):∀ (k:Nat),k<=qA->∀ {a:Nat},a<=L.length->∃ (t:Ty) (b:Nat),t.size<=JN k/\b<=L.length/\O 59 [.loc 0 0,.pv (num k)] [(0,dk L a)] (.pv t.p) [(0,dk L b)]
 | k,hk,a,ha=>by
  have hm:=jA;have hb:=uA;obtain⟨x,b,hx,hb1,g1⟩:=nx hL ha (n:=7) (by omega) (by omega);have t1:=ot k;rcases x with _|_|_|_|_|_|_|x
  ·exact⟨.nat,b,t1,hb1,o2 1 [(6,.D L b (.pv (num 0))),(11,.Y)] g1 iA⟩
  ·exact⟨.nat,b,t1,hb1,o2 1 [(6,.D L b (.pv (num 1))),(11,.Y)] g1 iA⟩
  ·exact⟨.nat,b,t1,hb1,o2 1 [(6,.D L b (.pv (num 2))),(11,.Y)] g1 iA⟩
  ·exact⟨.list,b,t1,hb1,o2 1 [(6,.D L b (.pv (num 3))),(14,.r Ty.list.p)] g1 HK⟩
  ·exact⟨.unit,b,t1,hb1,o2 1 [(6,.D L b (.pv (num 4))),(17,.r Ty.unit.p)] g1 bt⟩
  ·cases k with
   | zero=>exact⟨.nat,b,t1,hb1,o2 1 [(6,.D L b (.pv (num 5))),(44,.Y)] g1 iA⟩
   | succ k =>
    have gs:=nB (a:=k+1);obtain⟨t,c,z1,hc,g2⟩:=WC hL k (by omega) hb1;obtain⟨u,d,z2,hd,g3⟩:=WC hL k (by omega) hc;exact⟨.two false t u,d,by simp only [Ty.size,JN];omega,hd,o6 1 [(6,.D L b (.pv (num 5))),(24,.z k),(25,.D L c (.pv t.p)),(28,.z k),(29,.D L d (.pv u.p)),(30,.r (Ty.two false t u).p)] g1 gs g2 gs g3 (wd t u)⟩
  ·cases k with
   | zero=>exact⟨.nat,b,t1,hb1,o2 1 [(6,.D L b (.pv (num 6))),(44,.Y)] g1 iA⟩
   | succ k =>
    have gs:=nB (a:=k+1);obtain⟨t,c,z1,hc,g2⟩:=WC hL k (by omega) hb1;obtain⟨u,d,z2,hd,g3⟩:=WC hL k (by omega) hc;exact⟨.two true t u,d,by simp only [Ty.size,JN];omega,hd,o6 1 [(6,.D L b (.pv (num 6))),(37,.z k),(38,.D L c (.pv t.p)),(41,.z k),(42,.D L d (.pv u.p)),(43,.r (Ty.two true t u).p)] g1 gs g2 gs g3 (IL t u)⟩
  ·omega
theorem VH {n:Nat} (h:n<4:=by omega):A 32 [num n] (TA n).p:=f1 [(7,.U [(TA n).p,num 0])] (Dn h)
theorem vJ (f a b:Tm):A 118 [f.p,row [a,b]] (Tm.n2 .app (.n2 .app f a) b).p:=by
 have h:∀ x y:Tm,A 116 [num 3,row [x,y]] (Tm.n2 .app x y).p:=λ x y=>bF 3 x y
 exact f2 [(16,.r (Tm.n2 .app f a).p),(16,.r (Tm.n2 .app (.n2 .app f a) b).p)] (h f a) (h (.n2 .app f a) b)
theorem ZX {α:Type} {c:α->List PV} {n:Nat} (hn:∀ t,(c t).length=n) (h1:∀ t,SB [oA (c t)]=true):∀ g:List α,bC n (vA (g.map c))=true/\SB (vA (g.map c))=true
 | []=>⟨rfl,rfl⟩
 | t::r=>by
  obtain⟨a,b⟩:=ZX hn h1 r;have e:vA ((t::r).map c)=oA (c t)::vA (r.map c):=rfl;rw [e];constructor
  ·unfold bC;rw [vE (show (oA (c t)).length=n by simp [oA,hn]),cond_true];exact a
  ·have h2:=h1 t;unfold SB at h2 ⊢
   cases h3:CJ (oA (c t)) with
   | false=>rw [h3] at h2;cases h2
   | true=>rw [cond_true];exact b
theorem Zf {α:Type} {c:α->List PV} {n m:Nat} (hn:∀ t,(c t).length=n) (h1:∀ t,SB [oA (c t)]=true) (h0:0<n) (g:List α) (h:g.length * m<=140737488355328) (hg:g.length<=maxLen) :
  (Nat.blt 0 n && bC n (vA (g.map c)) && SB (vA (g.map c)) && Nat.ble (vA (g.map c)).length maxLen && Nat.ble ((vA (g.map c)).length * m) 140737488355328)=true:=by
 obtain⟨a,b⟩:=ZX hn h1 g;have h3:Nat.blt 0 n=true:=by rw [CG];simpa using h0
 rw [h3,a,b,pvE_len,List.length_map,Nat.ble_eq_true_of_le hg,Nat.ble_eq_true_of_le h];rfl
theorem At {A B:List (List PV)} : List.take ((vA A).length+(vA B).length) (A++B)=A++B:=List.take_of_length_le (by simp [pvE_len])
theorem qg (A B:List (List PV)):List.take (vA A).length (vA A)++vA B=vA (A++B):=by
 rw [List.take_length];simp [vA]
theorem cD (g l:List Ty) (h:g.length+l.length<=qA):A 111 [cA g,cA l] (cA (g++l)):=by
 have hm:=jA;have g1:=Zf (c:=Ty.c) (n:=2) (m:=32) Ty.c_len (λ _=>rfl) (by decide) g (by omega) (by simp only [maxLen];omega);obtain⟨s1,s2⟩:=ZX (c:=Ty.c) (n:=2) Ty.c_len (λ _=>rfl) l;have g2:(Nat.beq 1 1 && Nat.ble (vA (g.map Ty.c)).length (vA (g.map Ty.c)).length && Nat.beq 34 34 && Nat.beq 2 2 && Nat.blt 0 2 && bC 2 (vA (l.map Ty.c)) && SB (vA (l.map Ty.c)) && Nat.ble ((vA (g.map Ty.c)).length+(vA (l.map Ty.c)).length) maxLen && Nat.ble (((vA (g.map Ty.c)).length+(vA (l.map Ty.c)).length) * 32) 140737488355328)=true :=
  CP rfl (by decide) s1 s2 (by rw [pvE_len,pvE_len];simp only [List.length_map,maxLen];omega) (by rw [pvE_len,pvE_len];simp only [List.length_map];omega)
 have g3:A 111 [cA g,cA l] (.slice (List.take ((vA (g.map Ty.c)).length+(vA (l.map Ty.c)).length) (g.map Ty.c++l.map Ty.c))) :=
  f3 [(6,.ok),(8,.ok),(300001,.f 0 (g.map Ty.c++l.map Ty.c))] g1 g2 (qg (g.map Ty.c) (l.map Ty.c))
 rw [At,<- List.map_append] at g3;exact g3
abbrev qY:Kp:=⟨[0,3,5,8,9],[0,1],2,[]⟩
theorem zY {g:List Ty} {k:Nat} (hk:k<g.length:=by omega) (hg:g.length<=qA:=by omega):∃ s,(rA (Int.ofNat (g.map Ty.c).length-1)=true/\Int.ofNat (g.map Ty.c).length-1 = .ofNat ((g.map Ty.c).length-1))/\(rA (Int.ofNat ((g.map Ty.c).length-1) - .ofNat k)=true/\Int.ofNat ((g.map Ty.c).length-1) - .ofNat k = .ofNat (g.length-1-k))/\(QB (g.map Ty.c) (g.length-1-k)=some (Ty.c s)/\LB 2 (g.map Ty.c)=true)/\s∈g/\vB g k = .ok s:=by
 have hm:=jA;have hb:=uA;obtain⟨s,hs⟩:∃ s,g[g.length-1-k]? = some s:=⟨_,List.getElem?_eq_getElem (by omega)⟩;refine⟨s,nB (a:=(g.map Ty.c).length) (by simp;omega) (by simp;omega),?_,KA hs Ty.c_len,List.mem_of_getElem? hs,by unfold vB;rw [if_pos hk,hs]⟩;have e:Int.ofNat ((g.map Ty.c).length-1) - .ofNat k = .ofNat (g.length-1-k):=by simp;omega
 exact⟨by rw [e];exact eA,e⟩
theorem jY (t:Ty) {g:List Ty} (hg:g.length<=qA):∀ (r k v:Nat) (A:List (List PV)),k+r=g.length->A.length<=k ->
  ∃ (v':Nat) (l:List Nat),(∀ x∈l,vB g x = .ok t)/\l.length<=r/\Lp 115 0 0 (st [(0,.pv (cA g)),(3,.loc 0 0),(5,.arr 1 v A.length),(8,.pv (num (g.map Ty.c).length)),(9,.pv (num k))] [(0,bx t.c),(1,.arr v 1 3 (vA A))] 2 []) (.exit 0) (st [(5,.arr 1 v' (A.length+l.length))] [(1,.arr v' 1 3 (vA (A++l.map ic)))] 2 [])
 | 0,k,v,A,h,hA=>by
  have e:kA (.ofNat k) (.ofNat (g.map Ty.c).length)=false:=CA (by simp;omega);refine⟨v,[],by simp,Nat.le_refl _,?_⟩;simp only [List.map_nil,List.append_nil,List.length_nil,Nat.add_zero];exact y1 [(10,.H)] ⟨[5],[1],2,[]⟩ e (MC A)
 | r+1,k,v,A,h,hA=>by
  have hm:=jA;have hb:=uA;have e:kA (.ofNat k) (.ofNat (g.map Ty.c).length)=true:=aA (by simp;omega);obtain⟨s,g1,g2,g3,_,hv⟩:=zY (g:=g) (k:=k) (by omega) hg;have g4:=FD s t;have g6:=AA (a:=k) (b:=1);cases hs:s.same t<;>rw [hs] at g4
  ·obtain⟨v',l,q1,q2,ih⟩:=jY t hg r (k+1) v A (by omega) (by omega);exact⟨v',l,q1,by omega,n8 [(10,.G),(15,.z ((g.map Ty.c).length-1)),(17,.z (g.length-1-k)),(18,.i s.c),(21,.F),(26,.z (k+1))] qY e g1 g2 g3 g4 g6 (MC A) ih⟩
  ·have g5:=PL (A:=A) (v:=v) (ty:=3) (m:=8) (c:=ic k) (show 0<1 by decide) rfl rfl (by simp only [maxLen];omega);obtain⟨v',l,q1,q2,ih⟩:=jY t hg r (k+1) (v+1) (A++[ic k]) (by omega) (by simp;omega);rw [LI,show (A++[ic k]).length=A.length+1 by simp,show A.length+1+l.length=A.length+(k::l).length by simp;omega,List.append_assoc] at ih;exact⟨v',k::l,λ x hx=>by
    rcases List.mem_cons.1 hx with rfl|hx
    ·rw [hv,(uD s t).1 hs]
    ·exact q1 x hx,by simp;omega,n9 [(10,.G),(15,.z ((g.map Ty.c).length-1)),(17,.z (g.length-1-k)),(18,.i s.c),(21,.T),(25,.ok),(26,.z (k+1))] qY e g1 g2 g3 g4 g5 g6 (rF A (ic k)) ih⟩
abbrev il:List Nat->PV
 | [] => .nils
 | l=>bA l
theorem zg (t:Ty) {g:List Ty} (hg:g.length<=qA):∀ (r k:Nat),k+r=g.length ->
  Lp 115 0 0 (st [(0,.pv (cA g)),(3,.loc 0 0),(5,.pv .nils),(8,.pv (num (g.map Ty.c).length)),(9,.pv (num k))] [(0,bx t.c)] 1 []) (.exit 0) (st [(5,.pv .nils)] [] 2 []) \/
  ∃ l:List Nat,(∀ x∈l,vB g x = .ok t)/\1<=l.length/\l.length<=r/\Lp 115 0 0 (st [(0,.pv (cA g)),(3,.loc 0 0),(5,.pv .nils),(8,.pv (num (g.map Ty.c).length)),(9,.pv (num k))] [(0,bx t.c)] 1 []) (.exit 0) (st [(5,.pv (bA l))] [] 2 [])
 | 0,k,h=>by
  have e:kA (.ofNat k) (.ofNat (g.map Ty.c).length)=false:=CA (by simp;omega);exact .inl (x1 [(10,.H)] ⟨[5],[],2,[]⟩ e)
 | r+1,k,h=>by
  have hm:=jA;have hb:=uA;have e:kA (.ofNat k) (.ofNat (g.map Ty.c).length)=true:=aA (by simp;omega);obtain⟨s,g1,g2,g3,_,hv⟩:=zY (g:=g) (k:=k) (by omega) hg;have g4:=FD s t;have g6:=AA (a:=k) (b:=1);cases hs:s.same t<;>rw [hs] at g4
  ·rcases zg t hg r (k+1) (by omega) with ih|⟨l,q1,q2,q3,ih⟩
   ·exact .inl (n7 [(10,.G),(15,.z ((g.map Ty.c).length-1)),(17,.z (g.length-1-k)),(18,.i s.c),(21,.F),(26,.z (k+1))] ⟨[0,3,5,8,9],[0],1,[]⟩ e g1 g2 g3 g4 g6 ih)
   ·exact .inr ⟨l,q1,q2,by omega,n7 [(10,.G),(15,.z ((g.map Ty.c).length-1)),(17,.z (g.length-1-k)),(18,.i s.c),(21,.F),(26,.z (k+1))] ⟨[0,3,5,8,9],[0],1,[]⟩ e g1 g2 g3 g4 g6 ih⟩
  ·right;by_cases hk0:k=0\/1<=k
   ·obtain⟨v,l,q1,q2,ih⟩:=jY t hg r (k+1) 1 [ic k] (by omega) (by simp);have h2:=LoopIs.fz (by simp) ih 1 (ver:=v) (sz:=1) (ty:=3) (ps:=(k::l).map ic) rfl (by kernel_rfl);simp (decide:=true) only [uE,CD,rC,bx,List.map,pD,and_self,↓reduceIte,List.take_of_length_le (show (ic k::l.map ic).length<=[ic k].length+l.length by simp;omega)] at h2;refine⟨k::l,λ x hx => ?_,by simp,by simp;omega,n8 [(10,.G),(15,.z ((g.map Ty.c).length-1)),(17,.z (g.length-1-k)),(18,.i s.c),(21,.T),(26,.z (k+1))] qY e g1 g2 g3 g4 g6 (rF [] (ic k)) h2⟩;rcases List.mem_cons.1 hx with rfl|hx
    ·rw [hv,(uD s t).1 hs]
    ·exact q1 x hx
   ·omega
theorem Bt (g:List Ty) (t:Ty) (hg:g.length<=qA:=by omega):∃ l:List Nat,(∀ x∈l,vB g x = .ok t)/\l.length<=g.length/\A 115 [cA g,t.p] (bA l):=by
 rcases zg t hg g.length 0 (by omega) with h|⟨l,q1,q2,q3,h⟩
 ·exact⟨[],by simp,by simp,f1 [(100003,.l ⟨[0,3,5,8,9],[0],1,[]⟩ (.exit 0) (st [(5,.pv .nils)] [] 2 []))] h⟩
 ·exact⟨l,q1,q3,f1 [(100003,.l ⟨[0,3,5,8,9],[0],1,[]⟩ (.exit 0) (st [(5,.pv (bA l))] [] 2 []))] h⟩
theorem vY (g:List Ty) (hs:List Fm) (f:Fm) (h:hs.length<=1000000:=by omega):A 58 [VA g hs,f.p] (VA g (hs++[f])):=by
 have g1:=Zf (c:=Fm.c) (n:=5) (m:=88) Fm.c_len (λ _=>rfl) (by decide) hs (by omega) (by simp only [maxLen];omega);have g2:(Nat.beq 1 1 && Nat.ble (vA (hs.map Fm.c)).length (vA (hs.map Fm.c)).length && Nat.beq 40 40 && Nat.beq 5 5 && Nat.blt 0 5 && bC 5 [oA f.c] && SB [oA f.c] && Nat.ble ((vA (hs.map Fm.c)).length+[oA f.c].length) maxLen && Nat.ble (((vA (hs.map Fm.c)).length+[oA f.c].length) * 88) 140737488355328)=true :=
  CP rfl (by decide) rfl rfl (by rw [pvE_len];simp only [List.length_map,maxLen,List.length_singleton];omega) (by rw [pvE_len];simp only [List.length_map,List.length_singleton];omega)
 have g3:A 58 [VA g hs,f.p] (.agg [cA g,.slice (List.take ((vA (hs.map Fm.c)).length+[oA f.c].length) (hs.map Fm.c++[f.c]))]) :=
  f3 [(9,.ok),(12,.ok),(300001,.f 3 (hs.map Fm.c++[f.c]))] g1 g2 (qg (hs.map Fm.c) [f.c])
 rw [List.take_of_length_le (by rw [pvE_len];simp)] at g3;rw [show VA g (hs++[f]) = .agg [cA g,.slice (hs.map Fm.c++[f.c])] by simp [VA,fA]];exact g3
theorem OT (t:Tm) (h:t.cnt<=1000000) (h':t.mx<=qA * qA):A 66 [t.p] (t.sh 0 1).p:=by
 have hm:=jA;have g1:=bD (.eq t t) 0 1 (by omega) (by omega) (by simp only [Fm.mx];omega) (by simp only [Fm.cnt];omega);exact f2 [(5,.r (Fm.eq t t).p),(6,.r ((Fm.eq t t).sh 0 1).p)] (rE t t) g1
end Go.Proofs.YtmkajedkflhbgaaGreatDoor
