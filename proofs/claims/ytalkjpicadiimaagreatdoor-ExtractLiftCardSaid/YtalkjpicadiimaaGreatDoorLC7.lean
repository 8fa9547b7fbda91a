/- Contracts of functions; no conditions. -/
import Derived.Test.YtalkjpicadiimaaGreatDoorLC6
import Derived.Test.YtalkjpicadiimaaGreatDoorLC4
set_option linter.all false
set_option maxHeartbeats 4000000
namespace Go.Proofs.YtalkjpicadiimaaGreatDoor
open Go.Lg
set_option maxRecDepth 100000
abbrev blp (tl:List Tm):PV:=.agg [row tl]
abbrev tyR (r:TR) (b:Bool):PV:=.tuple [.agg [num r.k,.slice r.l],.bool b,num r.n]
abbrev T69 (tl:List Tm) (hs:List Fm) (a:Jt) (F:Fm) (s:Sc) (r:XR):Prop:=A 69 [blp tl,a.pf hs F,s.p] r.p
variable {tl:List Tm} {hs:List Fm} {s:Sc}
theorem qS9 {a b:Jt} {x y:Fm} {ra rb:XR} (hx:x.has=true) (hy:y.has=true) (ga:T69 tl hs a x s ra) (gb:T69 tl hs b y s rb) (ca:ra.cn≤4096) (cb:rb.cn≤4096):A 69 [blp tl,qZ6 (Pf.p2 .andI a.p b.p) (Fm.bin .and x y) hs [[a.pf hs x],[b.pf hs y]],s.p] (XR.two .pair ra rb).p:=by
 cases ra with
 | er x n=>exact f3 [(71,.G),(81,.G),(87,.n [(13,.n [(15,.r (XR.er x n).p)])])] hx hy ga
 | ok t=>cases rb with
  | er x n=>exact f4 [(71,.G),(81,.G),(87,.n [(13,.n [(15,.r (XR.ok t).p)]),(22,.n [(15,.r (XR.er x n).p)])])] hx hy ga gb
  | ok u =>
   have c1:t.cnt≤4096:=ca
   have c2:u.cnt≤4096:=cb
   have hm:=qQd
   exact f5 [(71,.G),(81,.G),(87,.n [(13,.n [(15,.r (XR.ok t).p)]),(22,.n [(15,.r (XR.ok u).p)]),(34,.r (XR.fit (.n2 .pair t u)).p)])] hx hy ga gb (qAk .pair t u (by omega))
theorem qTa {a b:Jt} {x y:Fm} {ra:XR} (hx:x.has=true) (hy:y.has=false) (ga:T69 tl hs a x s ra):A 69 [blp tl,qZ6 (Pf.p2 .andI a.p b.p) (Fm.bin .and x y) hs [[a.pf hs x],[b.pf hs y]],s.p] ra.p:=by
 exact f4 [(71,.G),(81,.H),(99,.G),(108,.r ra.p)] hx hy hx ga
theorem zZx {a b:Jt} {x y:Fm} {rb:XR} (hx:x.has=false) (gb:T69 tl hs b y s rb):A 69 [blp tl,qZ6 (Pf.p2 .andI a.p b.p) (Fm.bin .and x y) hs [[a.pf hs x],[b.pf hs y]],s.p] rb.p:=by
 exact f3 [(71,.H),(99,.H),(119,.r rb.p)] hx hx gb
theorem zZy {a:Jt} {f y:Fm} {ra:XR} {t0 t1:TR} (ga:T69 tl hs a (.bin .and f y) s ra) (g0:A 120 [f.p] (tyR t0 true)) (g1:A 120 [y.p] (tyR t1 true)) (ca:ra.cn≤4096):A 69 [blp tl,qZ6 (Pf.p1 .andL a.p) f hs [[a.pf hs (.bin .and f y)]],s.p] (XR.one .fst ra).p:=by
 cases ra with
 | er x n=>exact f3 [(134,.r (XR.er x n).p),(150,.r (tyR t0 true)),(167,.r (tyR t1 true))] ga g0 g1
 | ok t =>
  have c1:t.cnt≤4096:=ca
  have hm:=qQd
  exact f4 [(134,.r (XR.ok t).p),(150,.r (tyR t0 true)),(167,.r (tyR t1 true)),(193,.r (XR.fit (.n1 .fst t)).p)] ga g0 g1 (zV2 .fst t (by omega))
theorem zZz {a:Jt} {f y:Fm} {ra:XR} {t0 t1:TR} (ga:T69 tl hs a (.bin .and f y) s ra) (g0:A 120 [f.p] (tyR t0 true)) (g1:A 120 [y.p] (tyR t1 false)) (ca:ra.cn≤4096):A 69 [blp tl,qZ6 (Pf.p1 .andL a.p) f hs [[a.pf hs (.bin .and f y)]],s.p] ra.p:=by
 cases ra with
 | er x n=>exact f3 [(134,.r (XR.er x n).p),(150,.r (tyR t0 true)),(167,.r (tyR t1 false))] ga g0 g1
 | ok t=>exact f3 [(134,.r (XR.ok t).p),(150,.r (tyR t0 true)),(167,.r (tyR t1 false))] ga g0 g1
theorem zZ0 {a:Jt} {f y:Fm} {ra:XR} {t0 t1:TR} (ga:T69 tl hs a (.bin .and y f) s ra) (g0:A 120 [y.p] (tyR t0 true)) (g1:A 120 [f.p] (tyR t1 true)) (ca:ra.cn≤4096):A 69 [blp tl,qZ6 (Pf.p1 .andR a.p) f hs [[a.pf hs (.bin .and y f)]],s.p] (XR.one .snd ra).p:=by
 cases ra with
 | er x n=>exact f3 [(134,.r (XR.er x n).p),(150,.r (tyR t0 true)),(167,.r (tyR t1 true))] ga g0 g1
 | ok t =>
  have c1:t.cnt≤4096:=ca
  have hm:=qQd
  exact f4 [(134,.r (XR.ok t).p),(150,.r (tyR t0 true)),(167,.r (tyR t1 true)),(193,.r (XR.fit (.n1 .snd t)).p)] ga g0 g1 (zV2 .snd t (by omega))
theorem zZ1 {a:Jt} {f y:Fm} {ra:XR} {t0 t1:TR} (ga:T69 tl hs a (.bin .and y f) s ra) (g0:A 120 [y.p] (tyR t0 false)) (g1:A 120 [f.p] (tyR t1 true)) (ca:ra.cn≤4096):A 69 [blp tl,qZ6 (Pf.p1 .andR a.p) f hs [[a.pf hs (.bin .and y f)]],s.p] ra.p:=by
 cases ra with
 | er x n=>exact f3 [(134,.r (XR.er x n).p),(150,.r (tyR t0 false)),(167,.r (tyR t1 true))] ga g0 g1
 | ok t=>exact f3 [(134,.r (XR.ok t).p),(150,.r (tyR t0 false)),(167,.r (tyR t1 true))] ga g0 g1
theorem zZ2 {a:Jt} {x y:Fm} {n:Nat} {b:Bool} (g:A 120 [x.p] (tyR (.er n) b)):A 69 [blp tl,qZ6 (Pf.impI x a.p) (Fm.bin .imp x y) hs [[a.pf (hs++[x]) y]],s.p] (XR.er .z n).p:=by
 exact f1 [(206,.r (tyR (.er n) b))] g
theorem zZ3 {a:Jt} {x y:Fm} {u:Ty} {ra:XR} (g:A 120 [x.p] (tyR (.ok u) false)) (gs:A 72 [s.p] s.bare.p) (ga:T69 tl (hs++[x]) a y s.bare ra):A 69 [blp tl,qZ6 (Pf.impI x a.p) (Fm.bin .imp x y) hs [[a.pf (hs++[x]) y]],s.p] ra.p:=by
 exact f3 [(206,.r (tyR (.ok u) false)),(224,.r s.bare.p),(225,.r ra.p)] g gs ga
theorem zZ4 {a:Jt} {x y:Fm} {u:Ty} {ra:XR} (g:A 120 [x.p] (tyR (.ok u) true)) (gs:A 122 [s.p] s.bind.p) (gh:A 73 [s.bind.p,(Tm.v 0).p] (s.bind.hyp (.v 0)).p) (ga:T69 tl (hs++[x]) a y (s.bind.hyp (.v 0)) ra) (ca:ra.cn≤4096):A 69 [blp tl,qZ6 (Pf.impI x a.p) (Fm.bin .imp x y) hs [[a.pf (hs++[x]) y]],s.p] (ra.lam u).p:=by
 exact f6 [(206,.r (tyR (.ok u) true)),(237,.r s.bind.p),(238,.r (Tm.v 0).p),(239,.r (s.bind.hyp (.v 0)).p),(240,.r ra.p),(246,.r (ra.lam u).p)] g gs (a74 0) gh ga (qUn u ra ca)
theorem zZ5 {a b:Jt} {x y f:Fm} {ra:XR} (hy:y.has=false) (ga:T69 tl hs a (.bin .imp x f) s ra):A 69 [blp tl,qZ6 (Pf.p2 .impE a.p b.p) f hs [[a.pf hs (.bin .imp x f)],[b.pf hs y]],s.p] ra.p:=by
 exact f2 [(259,.H),(269,.r ra.p)] hy ga
theorem zZ6 {a b:Jt} {x y f:Fm} {ra rb:XR} (hy:y.has=true) (ga:T69 tl hs a (.bin .imp x f) s ra) (gb:T69 tl hs b y s rb) (ca:ra.cn≤4096) (cb:rb.cn≤4096):A 69 [blp tl,qZ6 (Pf.p2 .impE a.p b.p) f hs [[a.pf hs (.bin .imp x f)],[b.pf hs y]],s.p] (XR.two .app ra rb).p:=by
 cases ra with
 | er x n=>exact f2 [(259,.G),(276,.n [(13,.n [(15,.r (XR.er x n).p)])])] hy ga
 | ok t=>cases rb with
  | er x n=>exact f3 [(259,.G),(276,.n [(13,.n [(15,.r (XR.ok t).p)]),(22,.n [(15,.r (XR.er x n).p)])])] hy ga gb
  | ok u =>
   have c1:t.cnt≤4096:=ca
   have c2:u.cnt≤4096:=cb
   have hm:=qQd
   exact f4 [(259,.G),(276,.n [(13,.n [(15,.r (XR.ok t).p)]),(22,.n [(15,.r (XR.ok u).p)]),(34,.r (XR.fit (.n2 .app t u)).p)])] hy ga gb (qAk .app t u (by omega))
theorem zV6 {u:Ty} {a:Jt} {y:Fm} {ra:XR} (gs:A 122 [s.p] s.bind.p) (gv:A 196 [s.bind.p,(Tm.v 0).p] (s.bind.var (.v 0)).p) (ga:T69 tl (upH 1 hs) a y (s.bind.var (.v 0)) ra) (ca:ra.cn≤4096):A 69 [blp tl,qZ6 (Pf.all false u a.p) (Fm.q .all u y) hs [[a.pf (upH 1 hs) y]],s.p] (ra.lam u).p:=by
 exact f5 [(282,.n [(36,.r s.bind.p),(37,.r (Tm.v 0).p),(38,.r (s.bind.var (.v 0)).p),(39,.r ra.p),(49,.r (ra.lam u).p)])] gs (a74 0) gv ga (qUn u ra ca)
theorem zCz {u:Ty} {a:Jt} {y:Fm} {ra:XR} (gv:A 196 [s.p,u.ini.p] (s.var u.ini).p) (ga:T69 tl (upH 1 hs) a y (s.var u.ini) ra):A 69 [blp tl,qZ6 (Pf.all true u a.p) (Fm.q .allU u y) hs [[a.pf (upH 1 hs) y]],s.p] ra.p:=by
 exact f3 [(282,.n [(105,.r u.ini.p),(106,.r (s.var u.ini).p),(107,.r ra.p)])] (zV4 u) gv ga
theorem zC0 {a:Jt} {w:Tm} {u:Ty} {x f:Fm} {ra rp:XR} (ga:T69 tl hs a (.q .all u x) s ra) (gp:A 195 [s.p,w.p] rp.p) (ca:ra.cn≤4096) (cb:rp.cn≤4096):A 69 [blp tl,qZ6 (Pf.ins false w a.p) f hs [[a.pf hs (.q .all u x)]],s.p] (XR.two .app ra rp).p:=by
 cases ra with
 | er x n=>exact f1 [(282,.n [(57,.n [(13,.n [(15,.r (XR.er x n).p)])])])] ga
 | ok t=>cases rp with
  | er x n=>exact f2 [(282,.n [(57,.n [(13,.n [(15,.r (XR.ok t).p)]),(22,.n [(12,.r (XR.er x n).p)])])])] ga gp
  | ok u =>
   have c1:t.cnt≤4096:=ca
   have c2:u.cnt≤4096:=cb
   have hm:=qQd
   exact f3 [(282,.n [(57,.n [(13,.n [(15,.r (XR.ok t).p)]),(22,.n [(12,.r (XR.ok u).p)]),(34,.r (XR.fit (.n2 .app t u)).p)])])] ga gp (qAk .app t u (by omega))
theorem zC1 {a:Jt} {w:Tm} {u:Ty} {x f:Fm} {ra:XR} (ga:T69 tl hs a (.q .allU u x) s ra):A 69 [blp tl,qZ6 (Pf.ins true w a.p) f hs [[a.pf hs (.q .allU u x)]],s.p] ra.p:=by
 exact f1 [(282,.n [(128,.r ra.p)])] ga
theorem qTb {a:Jt} {w:Tm} {x y:Fm} {rp:XR} (hy:y.has=false) (gp:A 195 [s.p,w.p] rp.p):A 69 [blp tl,qZ6 (Pf.ex false x w a.p) x hs [[a.pf hs y]],s.p] rp.p:=by
 exact f2 [(282,.n [(70,.H),(73,.n [(12,.r rp.p)])])] hy gp
theorem zX2 {a:Jt} {w:Tm} {x y:Fm} {ra rp:XR} (hy:y.has=true) (ga:T69 tl hs a y s ra) (gp:A 195 [s.p,w.p] rp.p) (ca:ra.cn≤4096) (cb:rp.cn≤4096):A 69 [blp tl,qZ6 (Pf.ex false x w a.p) x hs [[a.pf hs y]],s.p] (XR.two .pair rp ra).p:=by
 cases rp with
 | er x n=>exact f2 [(282,.n [(70,.G),(79,.n [(13,.n [(12,.r (XR.er x n).p)])])])] hy gp
 | ok t=>cases ra with
  | er x n=>exact f3 [(282,.n [(70,.G),(79,.n [(13,.n [(12,.r (XR.ok t).p)]),(22,.n [(15,.r (XR.er x n).p)])])])] hy gp ga
  | ok u =>
   have c1:t.cnt≤4096:=cb
   have c2:u.cnt≤4096:=ca
   have hm:=qQd
   exact f4 [(282,.n [(70,.G),(79,.n [(13,.n [(12,.r (XR.ok t).p)]),(22,.n [(15,.r (XR.ok u).p)]),(34,.r (XR.fit (.n2 .pair t u)).p)])])] hy gp ga (qAk .pair t u (by omega))
theorem zG3 {a:Jt} {w:Tm} {x y:Fm} {ra:XR} (ga:T69 tl hs a y s ra):A 69 [blp tl,qZ6 (Pf.ex true x w a.p) x hs [[a.pf hs y]],s.p] ra.p:=by
 exact f1 [(282,.n [(128,.r ra.p)])] ga
theorem zX3 {a b:Jt} {x y z f:Fm} {rb:XR} (gb:T69 tl hs b y s rb):A 69 [blp tl,qZ6 (Pf.subst x a.p b.p) f hs [[a.pf hs z],[b.pf hs y]],s.p] rb.p:=by
 exact f1 [(282,.n [(128,.r rb.p)])] gb
theorem zX4 {a b:Jt} {u:Ty} {x y f:Fm} {n:Nat} {c:Bool} (g:A 120 [x.p] (tyR (.er n) c)):A 69 [blp tl,qZ6 (Pf.p2 .exE a.p b.p) f hs [[a.pf hs (.q .ex u x)],[b.pf (upH 1 hs++[x]) y]],s.p] (XR.er .z n).p:=by
 exact f1 [(282,.n [(87,.n [(29,.r (tyR (.er n) c))])])] g
theorem zX5 {a b:Jt} {u w:Ty} {x y f:Fm} {n:Nat} (g:A 120 [x.p] (tyR (.ok w) true)) (gs:A 122 [s.p] s.bind.p) (gp:A 258 [u.p,w.p] (TR.er n).p):A 69 [blp tl,qZ6 (Pf.p2 .exE a.p b.p) f hs [[a.pf hs (.q .ex u x)],[b.pf (upH 1 hs++[x]) y]],s.p] (XR.er .z n).p:=by
 exact f3 [(282,.n [(87,.n [(29,.r (tyR (.ok w) true)),(40,.r s.bind.p),(46,.r (TR.er n).p)])])] g gs gp
theorem zX6 {a b:Jt} {u w:Ty} {x y f:Fm} {ra rb:XR} (g:A 120 [x.p] (tyR (.ok w) true)) (gs:A 122 [s.p] s.bind.p) (gp:A 258 [u.p,w.p] (TR.ok (.two false u w)).p) (gv:A 196 [s.bind.p,(Tm.n1 .fst (.v 0)).p] (s.bind.var (.n1 .fst (.v 0))).p) (gh:A 73 [(s.bind.var (.n1 .fst (.v 0))).p,(Tm.n1 .snd (.v 0)).p] ((s.bind.var (.n1 .fst (.v 0))).hyp (.n1 .snd (.v 0))).p) (gb:T69 tl (upH 1 hs++[x]) b y ((s.bind.var (.n1 .fst (.v 0))).hyp (.n1 .snd (.v 0))) rb) (cb:rb.cn≤4096) (ga:T69 tl hs a (.q .ex u x) s ra) (ca:ra.cn≤4096):A 69 [blp tl,qZ6 (Pf.p2 .exE a.p b.p) f hs [[a.pf hs (.q .ex u x)],[b.pf (upH 1 hs++[x]) y]],s.p] (XR.two .app (rb.lam (.two false u w)) ra).p:=by
 have gl:=qUn (.two false u w) rb cb
 have cl:=qAl (.two false u w) rb
 generalize rb.lam (.two false u w)=rl at gl cl ⊢
 cases rl with
 | er x n=>exact f9 [(282,.n [(87,.n [(29,.r (tyR (.ok w) true)),(40,.r s.bind.p),(46,.r (TR.ok (.two false u w)).p),(54,.r (Tm.v 0).p),(57,.r (s.bind.var (.n1 .fst (.v 0))).p),(58,.r (Tm.v 0).p),(61,.r ((s.bind.var (.n1 .fst (.v 0))).hyp (.n1 .snd (.v 0))).p),(75,.r rb.p),(82,.r (XR.er x n).p)])])] g gs gp (a74 0) gv (a74 0) gh gb gl
 | ok t=>cases ra with
  | er x n=>exact f10 [(282,.n [(87,.n [(29,.r (tyR (.ok w) true)),(40,.r s.bind.p),(46,.r (TR.ok (.two false u w)).p),(54,.r (Tm.v 0).p),(57,.r (s.bind.var (.n1 .fst (.v 0))).p),(58,.r (Tm.v 0).p),(61,.r ((s.bind.var (.n1 .fst (.v 0))).hyp (.n1 .snd (.v 0))).p),(75,.r rb.p),(82,.r (XR.ok t).p),(87,.n [(22,.n [(13,.r (XR.er x n).p)])])])])] g gs gp (a74 0) gv (a74 0) gh gb gl ga
  | ok v =>
   have c1:t.cnt≤4096:=cl
   have c2:v.cnt≤4096:=ca
   have hm:=qQd
   exact f11 [(282,.n [(87,.n [(29,.r (tyR (.ok w) true)),(40,.r s.bind.p),(46,.r (TR.ok (.two false u w)).p),(54,.r (Tm.v 0).p),(57,.r (s.bind.var (.n1 .fst (.v 0))).p),(58,.r (Tm.v 0).p),(61,.r ((s.bind.var (.n1 .fst (.v 0))).hyp (.n1 .snd (.v 0))).p),(75,.r rb.p),(82,.r (XR.ok t).p),(87,.n [(22,.n [(13,.r (XR.ok v).p)]),(34,.r (XR.fit (.n2 .app t v)).p)])])])] g gs gp (a74 0) gv (a74 0) gh gb gl ga (qAk .app t v (by omega))
theorem zX7 {a b:Jt} {u w:Ty} {x y f:Fm} {ra rb:XR} (g:A 120 [x.p] (tyR (.ok w) false)) (gs:A 122 [s.p] s.bind.p) (gv:A 196 [s.bind.p,(Tm.v 0).p] (s.bind.var (.v 0)).p) (gh:A 72 [(s.bind.var (.v 0)).p] (s.bind.var (.v 0)).bare.p) (gb:T69 tl (upH 1 hs++[x]) b y (s.bind.var (.v 0)).bare rb) (cb:rb.cn≤4096) (ga:T69 tl hs a (.q .ex u x) s ra) (ca:ra.cn≤4096):A 69 [blp tl,qZ6 (Pf.p2 .exE a.p b.p) f hs [[a.pf hs (.q .ex u x)],[b.pf (upH 1 hs++[x]) y]],s.p] (XR.two .app (rb.lam u) ra).p:=by
 have gl:=qUn u rb cb
 have cl:=qAl u rb
 generalize rb.lam u=rl at gl cl ⊢
 cases rl with
 | er x n=>exact f7 [(282,.n [(87,.n [(29,.r (tyR (.ok w) false)),(40,.r s.bind.p),(63,.r (Tm.v 0).p),(64,.r (s.bind.var (.v 0)).p),(65,.r (s.bind.var (.v 0)).bare.p),(75,.r rb.p),(82,.r (XR.er x n).p)])])] g gs (a74 0) gv gh gb gl
 | ok t=>cases ra with
  | er x n=>exact f8 [(282,.n [(87,.n [(29,.r (tyR (.ok w) false)),(40,.r s.bind.p),(63,.r (Tm.v 0).p),(64,.r (s.bind.var (.v 0)).p),(65,.r (s.bind.var (.v 0)).bare.p),(75,.r rb.p),(82,.r (XR.ok t).p),(87,.n [(22,.n [(13,.r (XR.er x n).p)])])])])] g gs (a74 0) gv gh gb gl ga
  | ok v =>
   have c1:t.cnt≤4096:=cl
   have c2:v.cnt≤4096:=ca
   have hm:=qQd
   exact f9 [(282,.n [(87,.n [(29,.r (tyR (.ok w) false)),(40,.r s.bind.p),(63,.r (Tm.v 0).p),(64,.r (s.bind.var (.v 0)).p),(65,.r (s.bind.var (.v 0)).bare.p),(75,.r rb.p),(82,.r (XR.ok t).p),(87,.n [(22,.n [(13,.r (XR.ok v).p)]),(34,.r (XR.fit (.n2 .app t v)).p)])])])] g gs (a74 0) gv gh gb gl ga (qAk .app t v (by omega))
theorem zZ7 {a b:Jt} {u:Ty} {x y f:Fm} {n:Nat} {c:Bool} (g:A 120 [x.p] (tyR (.er n) c)):A 69 [blp tl,qZ6 (Pf.p2 .exUE a.p b.p) f hs [[a.pf hs (.q .exU u x)],[b.pf (upH 1 hs++[x]) y]],s.p] (XR.er .z n).p:=by
 exact f1 [(282,.n [(146,.r (tyR (.er n) c))])] g
theorem zZ8 {a b:Jt} {u w:Ty} {x y f:Fm} {rb:XR} (g:A 120 [x.p] (tyR (.ok w) false)) (gv:A 196 [s.p,u.ini.p] (s.var u.ini).p) (gh:A 72 [(s.var u.ini).p] (s.var u.ini).bare.p) (gb:T69 tl (upH 1 hs++[x]) b y (s.var u.ini).bare rb):A 69 [blp tl,qZ6 (Pf.p2 .exUE a.p b.p) f hs [[a.pf hs (.q .exU u x)],[b.pf (upH 1 hs++[x]) y]],s.p] rb.p:=by
 exact f5 [(282,.n [(146,.r (tyR (.ok w) false)),(174,.r u.ini.p),(175,.r (s.var u.ini).p),(176,.r (s.var u.ini).bare.p),(177,.r rb.p)])] g (zV4 u) gv gh gb
theorem zZ9 {a b:Jt} {u w:Ty} {x y f:Fm} {ra rb:XR} (g:A 120 [x.p] (tyR (.ok w) true)) (gs:A 122 [s.p] s.bind.p) (gv:A 196 [s.bind.p,u.ini.p] (s.bind.var u.ini).p) (gh:A 73 [(s.bind.var u.ini).p,(Tm.v 0).p] ((s.bind.var u.ini).hyp (.v 0)).p) (gb:T69 tl (upH 1 hs++[x]) b y ((s.bind.var u.ini).hyp (.v 0)) rb) (cb:rb.cn≤4096) (ga:T69 tl hs a (.q .exU u x) s ra) (ca:ra.cn≤4096):A 69 [blp tl,qZ6 (Pf.p2 .exUE a.p b.p) f hs [[a.pf hs (.q .exU u x)],[b.pf (upH 1 hs++[x]) y]],s.p] (XR.two .app (rb.lam w) ra).p:=by
 have gl:=qUn w rb cb
 have cl:=qAl w rb
 generalize rb.lam w=rl at gl cl ⊢
 cases rl with
 | er x n=>exact f8 [(282,.n [(146,.r (tyR (.ok w) true)),(189,.r s.bind.p),(200,.r u.ini.p),(201,.r (s.bind.var u.ini).p),(202,.r (Tm.v 0).p),(203,.r ((s.bind.var u.ini).hyp (.v 0)).p),(204,.r rb.p),(211,.r (XR.er x n).p)])] g gs (zV4 u) gv (a74 0) gh gb gl
 | ok t=>cases ra with
  | er x n=>exact f9 [(282,.n [(146,.r (tyR (.ok w) true)),(189,.r s.bind.p),(200,.r u.ini.p),(201,.r (s.bind.var u.ini).p),(202,.r (Tm.v 0).p),(203,.r ((s.bind.var u.ini).hyp (.v 0)).p),(204,.r rb.p),(211,.r (XR.ok t).p),(217,.n [(22,.n [(15,.r (XR.er x n).p)])])])] g gs (zV4 u) gv (a74 0) gh gb gl ga
  | ok v =>
   have c1:t.cnt≤4096:=cl
   have c2:v.cnt≤4096:=ca
   have hm:=qQd
   exact f10 [(282,.n [(146,.r (tyR (.ok w) true)),(189,.r s.bind.p),(200,.r u.ini.p),(201,.r (s.bind.var u.ini).p),(202,.r (Tm.v 0).p),(203,.r ((s.bind.var u.ini).hyp (.v 0)).p),(204,.r rb.p),(211,.r (XR.ok t).p),(217,.n [(22,.n [(15,.r (XR.ok v).p)]),(34,.r (XR.fit (.n2 .app t v)).p)])])] g gs (zV4 u) gv (a74 0) gh gb gl ga (qAk .app t v (by omega))
theorem zJa {a b:Jt} {x y z f:Fm} {w:Tm} {q:Sx} {n:Nat} (gp:A 195 [s.p,w.p] (XR.er q n).p):A 69 [blp tl,qZ6 (Pf.ind false x w a.p b.p) f hs [[a.pf hs y],[b.pf (upH 1 hs++[x]) z]],s.p] (XR.er .z n).p:=by
 exact f1 [(282,.n [(225,.n [(12,.r (XR.er q n).p)])])] gp
theorem zJb {a b:Jt} {x y z f:Fm} {w:Tm} {t:Tm} {n:Nat} {c:Bool} (gp:A 195 [s.p,w.p] (XR.ok t).p) (g:A 120 [x.p] (tyR (.er n) c)):A 69 [blp tl,qZ6 (Pf.ind false x w a.p b.p) f hs [[a.pf hs y],[b.pf (upH 1 hs++[x]) z]],s.p] (XR.er .z n).p:=by
 exact f2 [(282,.n [(225,.n [(12,.r (XR.ok t).p)]),(236,.n [(27,.r (tyR (.er n) c))])])] gp g
theorem zJc {a b:Jt} {x y z f:Fm} {w:Tm} {t:Tm} {u:Ty} {c:Bool} {q:Sx} {n:Nat} (gp:A 195 [s.p,w.p] (XR.ok t).p) (g:A 120 [x.p] (tyR (.ok u) c)) (ga:T69 tl hs a y s (.er q n)):A 69 [blp tl,qZ6 (Pf.ind false x w a.p b.p) f hs [[a.pf hs y],[b.pf (upH 1 hs++[x]) z]],s.p] (XR.er .z n).p:=by
 exact f3 [(282,.n [(225,.n [(12,.r (XR.ok t).p)]),(236,.n [(27,.r (tyR (.ok u) c)),(44,.r (XR.er q n).p)])])] gp g ga
theorem zJd {a b:Jt} {x y z f:Fm} {w:Tm} {t v:Tm} {u:Ty} {c:Bool} {rb:XR} (gp:A 195 [s.p,w.p] (XR.ok t).p) (ct:t.cnt≤4096) (g:A 120 [x.p] (tyR (.ok u) c)) (ga:T69 tl hs a y s (.ok v)) (cv:v.cnt≤4096) (gs:A 122 [s.p] s.bind.p) (gv:A 196 [s.bind.p,(Tm.v 0).p] (s.bind.var (.v 0)).p) (gs3:A 122 [(s.bind.var (.v 0)).p] (s.bind.var (.v 0)).bind.p) (gh:A 73 [(s.bind.var (.v 0)).bind.p,(Tm.v 0).p] ((s.bind.var (.v 0)).bind.hyp (.v 0)).p) (gb:T69 tl (upH 1 hs++[x]) b z ((s.bind.var (.v 0)).bind.hyp (.v 0)) rb) (cb:rb.cn≤4096):A 69 [blp tl,qZ6 (Pf.ind false x w a.p b.p) f hs [[a.pf hs y],[b.pf (upH 1 hs++[x]) z]],s.p] (match ((rb).lam u).lam .nat with | .er _ n=>XR.er .z n | .ok k=>XR.fit (.n3 .re u v k t)).p:=by
 have gl0:=qUn u (rb) cb
 have gl1:=qUn .nat ((rb).lam u) (qAl _ _)
 have cl:=qAl .nat (((rb).lam u))
 generalize ((rb).lam u).lam .nat=rl at gl1 cl ⊢
 cases rl with
 | er q n=>exact f13 [(282,.n [(225,.n [(12,.r (XR.ok t).p)]),(236,.n [(27,.r (tyR (.ok u) c)),(44,.r (XR.ok v).p),(51,.Y),(55,.r s.bind.p),(56,.r (Tm.v 0).p),(57,.r (s.bind.var (.v 0)).p),(81,.r (s.bind.var (.v 0)).bind.p),(82,.r (Tm.v 0).p),(83,.r ((s.bind.var (.v 0)).bind.hyp (.v 0)).p),(84,.r rb.p),(101,.r ((rb).lam u).p),(101,.r (XR.er q n).p)])])] gp g ga zAl gs (a74 0) gv gs3 (a74 0) gh gb gl0 gl1
 | ok k =>
  have c1:k.cnt≤4096:=cl
  have hm:=qQd
  exact f14 [(282,.n [(225,.n [(12,.r (XR.ok t).p)]),(236,.n [(27,.r (tyR (.ok u) c)),(44,.r (XR.ok v).p),(51,.Y),(55,.r s.bind.p),(56,.r (Tm.v 0).p),(57,.r (s.bind.var (.v 0)).p),(81,.r (s.bind.var (.v 0)).bind.p),(82,.r (Tm.v 0).p),(83,.r ((s.bind.var (.v 0)).bind.hyp (.v 0)).p),(84,.r rb.p),(101,.r ((rb).lam u).p),(101,.r (XR.ok k).p),(114,.r (XR.fit (.n3 .re u v k t)).p)])])] gp g ga zAl gs (a74 0) gv gs3 (a74 0) gh gb gl0 gl1 (zV3 .re u v k t (by omega))
theorem zJe {a b:Jt} {x y z f:Fm} {w:Tm} {q:Sx} {n:Nat} (gp:A 195 [s.p,w.p] (XR.er q n).p):A 69 [blp tl,qZ6 (Pf.ind true x w a.p b.p) f hs [[a.pf hs y],[b.pf (upH 2 hs++[x.sh 1 (.ofNat 1)]) z]],s.p] (XR.er .z n).p:=by
 exact f1 [(282,.n [(225,.n [(12,.r (XR.er q n).p)])])] gp
theorem zJf {a b:Jt} {x y z f:Fm} {w:Tm} {t:Tm} {n:Nat} {c:Bool} (gp:A 195 [s.p,w.p] (XR.ok t).p) (g:A 120 [x.p] (tyR (.er n) c)):A 69 [blp tl,qZ6 (Pf.ind true x w a.p b.p) f hs [[a.pf hs y],[b.pf (upH 2 hs++[x.sh 1 (.ofNat 1)]) z]],s.p] (XR.er .z n).p:=by
 exact f2 [(282,.n [(225,.n [(12,.r (XR.ok t).p)]),(236,.n [(27,.r (tyR (.er n) c))])])] gp g
theorem zJg {a b:Jt} {x y z f:Fm} {w:Tm} {t:Tm} {u:Ty} {c:Bool} {q:Sx} {n:Nat} (gp:A 195 [s.p,w.p] (XR.ok t).p) (g:A 120 [x.p] (tyR (.ok u) c)) (ga:T69 tl hs a y s (.er q n)):A 69 [blp tl,qZ6 (Pf.ind true x w a.p b.p) f hs [[a.pf hs y],[b.pf (upH 2 hs++[x.sh 1 (.ofNat 1)]) z]],s.p] (XR.er .z n).p:=by
 exact f3 [(282,.n [(225,.n [(12,.r (XR.ok t).p)]),(236,.n [(27,.r (tyR (.ok u) c)),(44,.r (XR.er q n).p)])])] gp g ga
theorem zJh {a b:Jt} {x y z f:Fm} {w:Tm} {t v:Tm} {u:Ty} {c:Bool} {rb:XR} (gp:A 195 [s.p,w.p] (XR.ok t).p) (ct:t.cnt≤4096) (g:A 120 [x.p] (tyR (.ok u) c)) (ga:T69 tl hs a y s (.ok v)) (cv:v.cnt≤4096) (gs:A 122 [s.p] s.bind.p) (gv:A 196 [s.bind.p,(Tm.v 0).p] (s.bind.var (.v 0)).p) (gs2:A 122 [(s.bind.var (.v 0)).p] (s.bind.var (.v 0)).bind.p) (gv2:A 196 [(s.bind.var (.v 0)).bind.p,(Tm.v 0).p] ((s.bind.var (.v 0)).bind.var (.v 0)).p) (gs3:A 122 [((s.bind.var (.v 0)).bind.var (.v 0)).p] ((s.bind.var (.v 0)).bind.var (.v 0)).bind.p) (gh:A 73 [((s.bind.var (.v 0)).bind.var (.v 0)).bind.p,(Tm.v 0).p] (((s.bind.var (.v 0)).bind.var (.v 0)).bind.hyp (.v 0)).p) (gb:T69 tl (upH 2 hs++[x.sh 1 (.ofNat 1)]) b z (((s.bind.var (.v 0)).bind.var (.v 0)).bind.hyp (.v 0)) rb) (cb:rb.cn≤4096):A 69 [blp tl,qZ6 (Pf.ind true x w a.p b.p) f hs [[a.pf hs y],[b.pf (upH 2 hs++[x.sh 1 (.ofNat 1)]) z]],s.p] (match (((rb).lam u).lam .list).lam .nat with | .er _ n=>XR.er .z n | .ok k=>XR.fit (.n3 .fo u v k t)).p:=by
 have gl0:=qUn u (rb) cb
 have gl1:=qUn .list ((rb).lam u) (qAl _ _)
 have gl2:=qUn .nat (((rb).lam u).lam .list) (qAl _ _)
 have cl:=qAl .nat ((((rb).lam u).lam .list))
 generalize (((rb).lam u).lam .list).lam .nat=rl at gl2 cl ⊢
 cases rl with
 | er q n=>exact f19 [(282,.n [(225,.n [(12,.r (XR.ok t).p)]),(236,.n [(27,.r (tyR (.ok u) c)),(44,.r (XR.ok v).p),(51,.Y),(55,.r s.bind.p),(56,.r (Tm.v 0).p),(57,.r (s.bind.var (.v 0)).p),(64,.Y),(65,.r Ty.list.p),(69,.r (s.bind.var (.v 0)).bind.p),(70,.r (Tm.v 0).p),(71,.r ((s.bind.var (.v 0)).bind.var (.v 0)).p),(81,.r ((s.bind.var (.v 0)).bind.var (.v 0)).bind.p),(82,.r (Tm.v 0).p),(83,.r (((s.bind.var (.v 0)).bind.var (.v 0)).bind.hyp (.v 0)).p),(84,.r rb.p),(101,.r ((rb).lam u).p),(101,.r (((rb).lam u).lam .list).p),(101,.r (XR.er q n).p)])])] gp g ga zAl gs (a74 0) gv zAl zLh gs2 (a74 0) gv2 gs3 (a74 0) gh gb gl0 gl1 gl2
 | ok k =>
  have c1:k.cnt≤4096:=cl
  have hm:=qQd
  exact f20 [(282,.n [(225,.n [(12,.r (XR.ok t).p)]),(236,.n [(27,.r (tyR (.ok u) c)),(44,.r (XR.ok v).p),(51,.Y),(55,.r s.bind.p),(56,.r (Tm.v 0).p),(57,.r (s.bind.var (.v 0)).p),(64,.Y),(65,.r Ty.list.p),(69,.r (s.bind.var (.v 0)).bind.p),(70,.r (Tm.v 0).p),(71,.r ((s.bind.var (.v 0)).bind.var (.v 0)).p),(81,.r ((s.bind.var (.v 0)).bind.var (.v 0)).bind.p),(82,.r (Tm.v 0).p),(83,.r (((s.bind.var (.v 0)).bind.var (.v 0)).bind.hyp (.v 0)).p),(84,.r rb.p),(101,.r ((rb).lam u).p),(101,.r (((rb).lam u).lam .list).p),(101,.r (XR.ok k).p),(114,.r (XR.fit (.n3 .fo u v k t)).p)])])] gp g ga zAl gs (a74 0) gv zAl zLh gs2 (a74 0) gv2 gs3 (a74 0) gh gb gl0 gl1 gl2 (zV3 .fo u v k t (by omega))
theorem zX8 {a:Jt} {u w:Ty} {x f:Fm} {q:Sx} {n:Nat} (ga:T69 tl hs a (.q .all u (.q .ex w x)) s (.er q n)):A 69 [blp tl,qZ6 (Pf.p1 .choice a.p) f hs [[a.pf hs (.q .all u (.q .ex w x))]],s.p] (XR.er .z n).p:=by
 exact f1 [(282,.n [(242,.n [(26,.r (XR.er q n).p)])])] ga
theorem zX9 {a:Jt} {u w:Ty} {x f:Fm} {t:Tm} {n:Nat} {c:Bool} (ga:T69 tl hs a (.q .all u (.q .ex w x)) s (.ok t)) (g:A 120 [x.p] (tyR (.er n) c)):A 69 [blp tl,qZ6 (Pf.p1 .choice a.p) f hs [[a.pf hs (.q .all u (.q .ex w x))]],s.p] (XR.er t.x n).p:=by
 exact f2 [(282,.n [(242,.n [(26,.r (XR.ok t).p),(50,.r (tyR (.er n) c))])])] ga g
theorem zYa {a:Jt} {u w:Ty} {x f:Fm} {t:Tm} {v:Ty} (ga:T69 tl hs a (.q .all u (.q .ex w x)) s (.ok t)) (g:A 120 [x.p] (tyR (.ok v) false)):A 69 [blp tl,qZ6 (Pf.p1 .choice a.p) f hs [[a.pf hs (.q .all u (.q .ex w x))]],s.p] (XR.ok t).p:=by
 exact f2 [(282,.n [(242,.n [(26,.r (XR.ok t).p),(50,.r (tyR (.ok v) false))])])] ga g
theorem zYb {a:Jt} {u w:Ty} {x f:Fm} {t:Tm} {v:Ty} {n:Nat} (ga:T69 tl hs a (.q .all u (.q .ex w x)) s (.ok t)) (g:A 120 [x.p] (tyR (.ok v) true)) (g2:A 258 [w.p,v.p] (TR.er n).p):A 69 [blp tl,qZ6 (Pf.p1 .choice a.p) f hs [[a.pf hs (.q .all u (.q .ex w x))]],s.p] (XR.er .z n).p:=by
 exact f3 [(282,.n [(242,.n [(26,.r (XR.ok t).p),(50,.r (tyR (.ok v) true)),(69,.r (TR.er n).p)])])] ga g g2
theorem zYc {a:Jt} {u w:Ty} {x f:Fm} {t:Tm} {v k:Ty} {n:Nat} (ga:T69 tl hs a (.q .all u (.q .ex w x)) s (.ok t)) (g:A 120 [x.p] (tyR (.ok v) true)) (g2:A 258 [w.p,v.p] (TR.ok k).p) (g3:A 264 [u.p,k.p] (TR.er n).p):A 69 [blp tl,qZ6 (Pf.p1 .choice a.p) f hs [[a.pf hs (.q .all u (.q .ex w x))]],s.p] (XR.er .z n).p:=by
 exact f4 [(282,.n [(242,.n [(26,.r (XR.ok t).p),(50,.r (tyR (.ok v) true)),(69,.r (TR.ok k).p),(80,.r (TR.er n).p)])])] ga g g2 g3
abbrev zC2 (u:Ty):Tm:=.n2 .pair (.lam u (.n1 .fst (.n2 .app (.v 1) (.v 0)))) (.lam u (.n1 .snd (.n2 .app (.v 1) (.v 0))))
theorem zYd {a:Jt} {u w:Ty} {x f:Fm} {t:Tm} {v k m:Ty} (ga:T69 tl hs a (.q .all u (.q .ex w x)) s (.ok t)) (ct:t.cnt≤4096) (g:A 120 [x.p] (tyR (.ok v) true)) (g2:A 258 [w.p,v.p] (TR.ok k).p) (g3:A 264 [u.p,k.p] (TR.ok m).p):A 69 [blp tl,qZ6 (Pf.p1 .choice a.p) f hs [[a.pf hs (.q .all u (.q .ex w x))]],s.p] (XR.fit (.n2 .app (.lam m (zC2 u)) t)).p:=by
 exact f9 [(282,.n [(242,.n [(26,.r (XR.ok t).p),(50,.r (tyR (.ok v) true)),(69,.r (TR.ok k).p),(80,.r (TR.ok m).p),(89,.n [(5,.r (Tm.v 1).p),(6,.r (Tm.v 0).p)]),(91,.n [(5,.r (Tm.v 1).p),(6,.r (Tm.v 0).p)]),(101,.r (XR.fit (.n2 .app (.lam m (zC2 u)) t)).p)])])] ga g g2 g3 (a74 1) (a74 0) (a74 1) (a74 0) (qAk .app (.lam m (zC2 u)) t (by have hm:=qQd;simp only [Tm.cnt];omega))
end Go.Proofs.YtalkjpicadiimaaGreatDoor
namespace Go.Proofs.YtalkjpicadiimaaGreatDoor
open Go.Lg
set_option maxRecDepth 100000
def Fm.both:Fm→Bool
 | .bin _ x y=>x.has && y.has
 | _=>false
def zYe (f:Fm) (t:Tm):Tm:=match f with
 | .q _ u (.q _ w x)=>bif x.has then .n2 .app (.lam (.two true u (.two false w x.cty)) (zC2 u)) t else t
 | _=>t
def Fm.qs:Fm→Ty
 | .q _ s _=>s
 | _ => .unit
def Sc.hy (s:Sc) (i:Nat):Tm:=match s.ks[s.ks.length-1-i]? with
 | some (.hy t d _)=>t.sh 0 (.ofNat (s.dep-d))
 | _ => .n0 .unit
def Jt.xt (tl:List Tm):Jt→Sc→Tm
 | .leaf u i _,s=>match u with
  | false=>s.hy i
  | true=>match tl[i]? with
   | some t=>t
   | none => .n0 .unit
 | .refl _,_ => .n0 .unit
 | .p1 k a _,s=>match k with
  | .andL=>bif a.f.both then .n1 .fst (a.xt tl s) else a.xt tl s
  | .andR=>bif a.f.both then .n1 .snd (a.xt tl s) else a.xt tl s
  | .choice=>zYe a.f (a.xt tl s)
 | .p2 k a b _,s=>match k with
  | .andI=>bif a.f.has then (bif b.f.has then .n2 .pair (a.xt tl s) (b.xt tl s) else a.xt tl s) else b.xt tl s
  | .impE=>bif b.f.has then .n2 .app (a.xt tl s) (b.xt tl s) else a.xt tl s
  | .exE=>bif a.f.bd.has then .n2 .app (.lam (.two false a.f.qs a.f.bd.cty) (b.xt tl ((s.bind.var (.n1 .fst (.v 0))).hyp (.n1 .snd (.v 0))))) (a.xt tl s) else .n2 .app (.lam a.f.qs (b.xt tl (s.bind.var (.v 0)).bare)) (a.xt tl s)
  | .exUE=>bif a.f.bd.has then .n2 .app (.lam a.f.bd.cty (b.xt tl ((s.bind.var a.f.qs.ini).hyp (.v 0)))) (a.xt tl s) else b.xt tl (s.var a.f.qs.ini).bare
 | .impI x a,s=>bif x.has then .lam x.cty (a.xt tl (s.bind.hyp (.v 0))) else a.xt tl s.bare
 | .all u t a,s=>match u with
  | false => .lam t (a.xt tl (s.bind.var (.v 0)))
  | true=>a.xt tl (s.var t.ini)
 | .ins u t a _,s=>match u with
  | false => .n2 .app (a.xt tl s) (t.ps s.vs s.dep 0)
  | true=>a.xt tl s
 | .ex u _ t a,s=>match u with
  | false=>bif a.f.has then .n2 .pair (t.ps s.vs s.dep 0) (a.xt tl s) else t.ps s.vs s.dep 0
  | true=>a.xt tl s
 | .ind l x t a b _,s=>match l with
  | false => .n3 .re x.cty (a.xt tl s) (.lam .nat (.lam x.cty (b.xt tl ((s.bind.var (.v 0)).bind.hyp (.v 0))))) (t.ps s.vs s.dep 0)
  | true => .n3 .fo x.cty (a.xt tl s) (.lam .nat (.lam .list (.lam x.cty (b.xt tl (((s.bind.var (.v 0)).bind.var (.v 0)).bind.hyp (.v 0)))))) (t.ps s.vs s.dep 0)
 | .subst _ _ b _,s=>b.xt tl s
abbrev BT (tl:List Tm) (hs:List Fm) (j:Jt) (s:Sc):Prop:=∃ r:XR,A 69 [blp tl,j.ptr hs,s.p] r.p∧r.Gd s.dep (j.xt tl s)
theorem qTc {n:Nat} {bs:List Bool} {s:Sc} {t:Tm} (hS:ScOK n bs s) (ht:TK n t):(XR.fit (t.ps s.vs s.dep 0)).Gd s.dep (t.ps s.vs s.dep 0):=by
 have hc:t.sc (s.vs.length+0):=by rw [hS.vl];exact ht.sc
 exact qC0 (qAj hS.ve t 0 ht.shp) (qH4 hS.ve t 0 hc) rfl
theorem qC2 {a b:Tm} {c:Bool} (h:c=true):(bif c then a else b)=a:=by rw [h];rfl
theorem qEh {a b:Tm} {c:Bool} (h:c=false):(bif c then a else b)=b:=by rw [h];rfl
theorem Tm.c_len (t:Tm):t.c.length=5:=rfl
theorem zG4 (f:Fm):1≤f.cnt:=by cases f<;>simp [Fm.cnt]<;>omega
theorem a69 {ls:List Fm} {tl:List Tm} (HT:∀ (i:Nat) (f:Fm),ls[i]? = some f→∃ t,tl[i]? = some t∧TK 0 t):∀ (j:Jt) (n:Nat) (hs:List Fm) (s:Sc),j.OK ls n hs→j.f.has=true→ScOK n (hs.map Fm.has) s→n+j.p.cnt≤90000→hs.length+j.p.cnt≤mid→s.dep+j.p.cnt≤90000→s.hyps+j.p.cnt≤mid→BT tl hs j s
 | .leaf u i f,n,hs,s,h,hf,hS,hn,hl,hd,hh=>by
  have hm:=qQd
  have hb:=qQh
  have hlm:lim=100000:=rfl
  simp only [Jt.p,Pf.cnt] at hn hl hd hh
  obtain⟨h0,h⟩:=h
  replace hf:f.has=true:=hf
  cases u
  ·obtain⟨h1,h2⟩:=h
   have hk:(hs.map Fm.has)[hs.length-1-i]? = some true:=by rw [List.getElem?_map,h2];exact congrArg some hf
   obtain⟨t,d,p,e⟩:=hS.kh _ hk
   obtain⟨q1,q2⟩:=hS.ke _ (List.mem_of_getElem? e) t d p rfl
   have g1:=qV7 (a:=(hs.map Fm.c).length) (by simp;omega) (by simp;omega)
   have g2:inB (Int.ofNat ((hs.map Fm.c).length-1) - .ofNat i)=true∧Int.ofNat ((hs.map Fm.c).length-1) - .ofNat i = .ofNat (hs.length-1-i):=by
    have e:Int.ofNat ((hs.map Fm.c).length-1) - .ofNat i = .ofNat (hs.length-1-i):=by simp;omega
    exact⟨by rw [e];exact inN (by omega),e⟩
   have g3:=zM4 s _ t d p e q1 (by omega) q2
   have q3:=q2.sh (s.dep-d)
   have ed:d+(s.dep-d)=s.dep:=by omega
   rw [ed] at q3
   have ex:s.hy i=t.sh 0 (.ofNat (s.dep-d)):=by
    unfold Sc.hy
    rw [show s.ks.length=hs.length by have:=hS.kl;simpa using this,e]
   refine⟨.ok (t.sh 0 (.ofNat (s.dep-d))),f3 [(38,.z ((hs.map Fm.c).length-1)),(44,.z (hs.length-1-i)),(45,.U [(t.sh 0 (.ofNat (s.dep-d))).p,.bool true])] g1 g2 g3,q3,ex.symm⟩
  ·obtain⟨t,e,q⟩:=HT i f h
   exact⟨.ok t,f1 [(58,.i t.c)] (qQn e Tm.c_len),zM2 q (Nat.zero_le _),by show t=(match tl[i]? with|some t=>t|none => .n0 .unit);rw [e]⟩
 | .refl t,n,hs,s,h,hf,hS,hn,hl,hd,hh=>by
  have hf:false=true:=hf
  cases hf
 | .p1 k a f,n,hs,s,⟨h0,h1,h2⟩,hf,hS,hn,hl,hd,hh=>by
  have hm:=qQd
  have hlm:lim=100000:=rfl
  simp only [Jt.p,Pf.cnt] at hn hl hd hh
  replace hf:f.has=true:=hf
  have FA:=Jt.FKj h1
  cases k
  ·obtain⟨y,e⟩:=h2
   have ha:a.f.has=true:=by rw [e];show (f.has || y.has)=true;rw [hf];rfl
   obtain⟨r,g1,q1⟩:=a69 HT a n hs s h1 ha hS (by omega) (by omega) (by omega) (by omega)
   rw [e] at FA
   obtain⟨t0,g2,_⟩:=zZw FA.bin1 (by omega)
   obtain⟨t1,g3,_⟩:=zZw FA.bin2 (by omega)
   rw [hf] at g2
   cases hy:y.has<;>rw [hy] at g3
   ·have g:=zZz (tl:=tl) (hs:=hs) (s:=s) (a:=a) (f:=f) (y:=y) (ra:=r) (by rw [← e];exact g1) g2 g3 q1.cn
    rw [← e] at g
    have ex:(Jt.p1 .andL a f).xt tl s=a.xt tl s:=qEh (by rw [e];show (f.has && y.has)=false;rw [hf,hy];rfl)
    rw [BT,ex]
    exact⟨_,g,q1⟩
   ·have g:=zZy (tl:=tl) (hs:=hs) (s:=s) (a:=a) (f:=f) (y:=y) (ra:=r) (by rw [← e];exact g1) g2 g3 q1.cn
    rw [← e] at g
    have ex:(Jt.p1 .andL a f).xt tl s = .n1 .fst (a.xt tl s):=qC2 (by rw [e];show (f.has && y.has)=true;rw [hf,hy];rfl)
    rw [BT,ex]
    exact⟨_,g,zV5 q1⟩
  ·obtain⟨y,e⟩:=h2
   have ha:a.f.has=true:=by rw [e];show (y.has || f.has)=true;rw [hf];cases y.has<;>rfl
   obtain⟨r,g1,q1⟩:=a69 HT a n hs s h1 ha hS (by omega) (by omega) (by omega) (by omega)
   rw [e] at FA
   obtain⟨t0,g2,_⟩:=zZw FA.bin1 (by omega)
   obtain⟨t1,g3,_⟩:=zZw FA.bin2 (by omega)
   rw [hf] at g3
   cases hy:y.has<;>rw [hy] at g2
   ·have g:=zZ1 (tl:=tl) (hs:=hs) (s:=s) (a:=a) (f:=f) (y:=y) (ra:=r) (by rw [← e];exact g1) g2 g3 q1.cn
    rw [← e] at g
    have ex:(Jt.p1 .andR a f).xt tl s=a.xt tl s:=qEh (by rw [e];show (y.has && f.has)=false;rw [hf,hy];rfl)
    rw [BT,ex]
    exact⟨_,g,q1⟩
   ·have g:=zZ0 (tl:=tl) (hs:=hs) (s:=s) (a:=a) (f:=f) (y:=y) (ra:=r) (by rw [← e];exact g1) g2 g3 q1.cn
    rw [← e] at g
    have ex:(Jt.p1 .andR a f).xt tl s = .n1 .snd (a.xt tl s):=qC2 (by rw [e];show (y.has && f.has)=true;rw [hf,hy];rfl)
    rw [BT,ex]
    exact⟨_,g,zV5 q1⟩
  ·obtain⟨u,w,x,e,y,e1,e2⟩:=h2
   have ha:a.f.has=true:=by rw [e];rfl
   obtain⟨r,g1,q1⟩:=a69 HT a n hs s h1 ha hS (by omega) (by omega) (by omega) (by omega)
   rw [e] at FA
   have sw:=qOv (qZ1 FA.qf.shp).1
   have su:=qOv (qZ1 FA.shp).1
   obtain⟨T,g2,z2,ze,zt⟩:=zZw FA.qf.qf (by omega)
   have ex:(Jt.p1 .choice a f).xt tl s=bif x.has then .n2 .app (.lam (.two true u (.two false w x.cty)) (zC2 u)) (a.xt tl s) else a.xt tl s:=by show zYe a.f _=_;rw [e];rfl
   rw [BT,ex]
   cases r with
   | er q m =>
    have g:=zX8 (tl:=tl) (hs:=hs) (s:=s) (a:=a) (f:=f) (u:=u) (w:=w) (x:=x) (q:=q) (n:=m) (by rw [← e];exact g1)
    rw [← e] at g
    exact⟨_,g,by first|exact ze _ rfl|exact qXr ‹_› | exact q1⟩
   | ok t =>
    have q2:=q1
    cases T with
    | er m =>
     have g:=zX9 (tl:=tl) (hs:=hs) (s:=s) (a:=a) (f:=f) (u:=u) (w:=w) (x:=x) (t:=t) (by rw [← e];exact g1) g2
     rw [← e] at g
     exact⟨_,g,by first|exact ze _ rfl|exact qXr ‹_› | exact q1⟩
    | ok v =>
     cases hx:x.has<;>rw [hx] at g2
     ·have g:=zYa (tl:=tl) (hs:=hs) (s:=s) (a:=a) (f:=f) (u:=u) (w:=w) (x:=x) (t:=t) (by rw [← e];exact g1) g2
      rw [← e] at g
      exact⟨_,g,q2⟩
     ·have hv:v.size≤64:=z2
      have hvc:=zt v rfl hx
      have g3:=zLg w v (by omega)
      cases e3:TR.fit (.two false w v) with
      | er m =>
       rw [e3] at g3
       have g:=zYb (tl:=tl) (hs:=hs) (s:=s) (a:=a) (f:=f) (u:=u) (w:=w) (x:=x) (t:=t) (by rw [← e];exact g1) g2 g3
       rw [← e] at g
       exact⟨_,g,by first|exact ze _ rfl|exact qXr ‹_› | exact q1⟩
      | ok k =>
       rw [e3] at g3
       have hk:k.size≤64∧k = .two false w v:=by
        unfold TR.fit at e3
        split at e3
        ·rename_i h;cases e3;exact⟨h,rfl⟩
        ·cases e3
       have g4:=zM5 u k (by have:=hk.1;omega)
       cases e4:TR.fit (.two true u k) with
       | er m =>
        rw [e4] at g4
        have g:=zYc (tl:=tl) (hs:=hs) (s:=s) (a:=a) (f:=f) (u:=u) (w:=w) (x:=x) (t:=t) (by rw [← e];exact g1) g2 g3 g4
        rw [← e] at g
        exact⟨_,g,by first|exact ze _ rfl|exact qXr ‹_› | exact q1⟩
       | ok m =>
        rw [e4] at g4
        have hm':m.size≤64∧m = .two true u k:=by
         unfold TR.fit at e4
         split at e4
         ·rename_i h;cases e4;exact⟨h,rfl⟩
         ·cases e4
        have g:=zYd (tl:=tl) (hs:=hs) (s:=s) (a:=a) (f:=f) (u:=u) (w:=w) (x:=x) (t:=t) (by rw [← e];exact g1) q1.1.cnt g2 g3 g4
        rw [← e] at g
        refine⟨_,g,qC0 ?_ ?_ ?_⟩
        ·show (Nat.beq m.chk 0 && ((Nat.beq u.chk 0 && _) && (Nat.beq u.chk 0 && _)) && _)=true
         rw [zAm hm'.1,zAm su,q2.1.shp];rfl
        ·refine⟨⟨⟨?_,?_⟩,?_,?_⟩,q2.1.sc⟩<;>simp only [Tm.sc]<;>omega
        ·rw [hm'.2,hk.2,hvc,q2.2];rfl
 | .p2 k a b f,n,hs,s,⟨h0,h1,h2⟩,hf,hS,hn,hl,hd,hh=>by
  have hm:=qQd
  have hlm:lim=100000:=rfl
  simp only [Jt.p,Pf.cnt] at hn hl hd hh
  have ca:=qS7 a.p
  have cb:=qS7 b.p
  replace hf:f.has=true:=hf
  have hkl:s.ks.length=hs.length:=by have:=hS.kl;simpa using this
  have FA:=Jt.FKj h1
  cases k
  ·obtain⟨h3,e⟩:=h2
   subst e
   have hor:a.f.has=true∨b.f.has=true:=by have:(a.f.has || b.f.has)=true:=hf;simpa using this
   cases ha:a.f.has
   ·have hbh:b.f.has=true:=by rcases hor with h|h;rw [ha] at h;cases h;exact h
    obtain⟨r,g1,q1⟩:=a69 HT b n hs s h3 hbh hS (by omega) (by omega) (by omega) (by omega)
    exact⟨_,zZx ha g1,by show r.Gd s.dep (bif a.f.has then _ else _);rw [qEh ha];exact q1⟩
   ·obtain⟨r,g1,q1⟩:=a69 HT a n hs s h1 ha hS (by omega) (by omega) (by omega) (by omega)
    cases hbh:b.f.has
    ·exact⟨_,qTa ha hbh g1,by show r.Gd s.dep (bif a.f.has then (bif b.f.has then _ else _) else _);rw [qC2 ha,qEh hbh];exact q1⟩
    ·obtain⟨r2,g2,q2⟩:=a69 HT b n hs s h3 hbh hS (by omega) (by omega) (by omega) (by omega)
     exact⟨_,qS9 ha hbh g1 g2 q1.cn q2.cn,by show XR.Gd s.dep (bif a.f.has then (bif b.f.has then _ else _) else _) _;rw [qC2 ha,qC2 hbh];exact qC1 q1 q2⟩
  ·obtain⟨h3,x,e⟩:=h2
   have ha:a.f.has=true:=by rw [e];exact hf
   obtain⟨r,g1,q1⟩:=a69 HT a n hs s h1 ha hS (by omega) (by omega) (by omega) (by omega)
   cases hbh:b.f.has
   ·have g:=zZ5 (tl:=tl) (hs:=hs) (s:=s) (a:=a) (b:=b) (x:=x) (y:=b.f) (f:=f) (ra:=r) hbh (by rw [← e];exact g1)
    rw [← e] at g
    exact⟨_,g,by show r.Gd s.dep (bif b.f.has then _ else _);rw [qEh hbh];exact q1⟩
   ·obtain⟨r2,g2,q2⟩:=a69 HT b n hs s h3 hbh hS (by omega) (by omega) (by omega) (by omega)
    have g:=zZ6 (tl:=tl) (hs:=hs) (s:=s) (a:=a) (b:=b) (x:=x) (y:=b.f) (f:=f) (ra:=r) (rb:=r2) hbh (by rw [← e];exact g1) g2 q1.cn q2.cn
    rw [← e] at g
    exact⟨_,g,by show XR.Gd s.dep (bif b.f.has then _ else _) _;rw [qC2 hbh];exact qC1 q1 q2⟩
  ·obtain⟨h3,⟨u,e⟩,e1⟩:=h2
   have ex:(Jt.p2 .exE a b f).xt tl s=bif a.f.bd.has then .n2 .app (.lam (.two false a.f.qs a.f.bd.cty) (b.xt tl ((s.bind.var (.n1 .fst (.v 0))).hyp (.n1 .snd (.v 0))))) (a.xt tl s) else .n2 .app (.lam a.f.qs (b.xt tl (s.bind.var (.v 0)).bare)) (a.xt tl s):=rfl
   rw [BT,ex]
   have eu:a.f.qs=u:=by rw [e];rfl
   rw [eu]
   generalize hx:a.f.bd=x at *
   have ha:a.f.has=true:=by rw [e];rfl
   have hbh:b.f.has=true:=by rw [← qQ1 (qAg e1)];exact hf
   rw [e] at FA
   have su:=qOv (qZ1 FA.shp).1
   obtain⟨T,g2,z2,ze,zt⟩:=zZw FA.qf (by omega)
   have gs:=qUl s (by omega)
   cases T with
   | er m =>
    have g:=zX4 (tl:=tl) (hs:=hs) (s:=s) (a:=a) (b:=b) (u:=u) (x:=x) (y:=b.f) (f:=f) g2
    rw [← e,← hx] at g
    exact⟨_,g,by first|exact ze _ rfl|exact qXr ‹_› | exact q1⟩
   | ok w =>
    have hw:w.size≤64:=z2
    obtain⟨r,g1,q1⟩:=a69 HT a n hs s h1 ha hS (by omega) (by omega) (by omega) (by omega)
    cases hxh:x.has<;>rw [hxh] at g2
    ·have S1:=(hS.bind.var (t:=.v 0) (TKv (by show 0<s.dep+1;omega))).bare
     have gv:=qUm s.bind (.v 0) (by rw [hS.bind.vl];omega)
     have gh:=a72 (s.bind.var (.v 0)) (by show s.ks.length≤mid;omega) (by show s.hyps≤mid;omega)
     obtain⟨r2,g3,q3⟩:=a69 HT b (n+1) _ _ h3 hbh (by rw [List.map_append,qJh,List.map_cons,hxh];exact S1) (by omega) (by simp;omega) (by show s.dep+1+_≤_;omega) (by show s.hyps+1+_≤_;omega)
     have g:=zX7 (tl:=tl) (hs:=hs) (s:=s) (a:=a) (b:=b) (u:=u) (x:=x) (y:=b.f) (f:=f) g2 gs gv gh g3 q3.cn (by rw [← e];exact g1) q1.cn
     rw [← e,← hx] at g
     exact⟨_,g,qC1 (qXf su q3) q1⟩
    ·have gp:=zLg u w (by omega)
     cases e3:TR.fit (.two false u w) with
     | er m =>
      rw [e3] at gp
      have g:=zX5 (tl:=tl) (hs:=hs) (s:=s) (a:=a) (b:=b) (u:=u) (x:=x) (y:=b.f) (f:=f) g2 gs gp
      rw [← e,← hx] at g
      exact⟨_,g,by first|exact ze _ rfl|exact qXr ‹_› | exact q1⟩
     | ok k =>
      rw [e3] at gp
      unfold TR.fit at e3
      split at e3
      rotate_left
      ·cases e3
      rename_i hk
      cases e3
      have hz:TK (s.dep+1) (.v 0):=TKv (by omega)
      have S0:=hS.bind.var (t:=.n1 .fst (.v 0)) (TK1 hz (by simp [Tm.cnt]))
      have S1:=S0.hyp (t:=.n1 .snd (.v 0)) (TK1 hz (by simp [Tm.cnt])) true
      have gv:=qUm s.bind (.n1 .fst (.v 0)) (by rw [hS.bind.vl];omega)
      have gh:=a73 (s.bind.var (.n1 .fst (.v 0))) (.n1 .snd (.v 0)) (by show s.ks.length≤mid;omega) (by show s.hyps≤mid;omega)
      obtain⟨r2,g3,q3⟩:=a69 HT b (n+1) _ _ h3 hbh (by rw [List.map_append,qJh,List.map_cons,hxh];exact S1) (by omega) (by simp;omega) (by show s.dep+1+_≤_;omega) (by show s.hyps+1+_≤_;omega)
      have g:=zX6 (tl:=tl) (hs:=hs) (s:=s) (a:=a) (b:=b) (u:=u) (x:=x) (y:=b.f) (f:=f) g2 gs gp gv gh g3 q3.cn (by rw [← e];exact g1) q1.cn
      rw [← e,← hx] at g
      rw [zt w rfl hxh] at g hk
      exact⟨_,g,qC1 (qXf hk q3) q1⟩
  ·obtain⟨h3,⟨u,e⟩,e1⟩:=h2
   have ex:(Jt.p2 .exUE a b f).xt tl s=bif a.f.bd.has then .n2 .app (.lam a.f.bd.cty (b.xt tl ((s.bind.var a.f.qs.ini).hyp (.v 0)))) (a.xt tl s) else b.xt tl (s.var a.f.qs.ini).bare:=rfl
   rw [BT,ex]
   have eu:a.f.qs=u:=by rw [e];rfl
   rw [eu]
   generalize hx:a.f.bd=x at *
   have hbh:b.f.has=true:=by rw [← qQ1 (qAg e1)];exact hf
   rw [e] at FA
   have su:=qOv (qZ1 FA.shp).1
   obtain⟨T,g2,z2,ze,zt⟩:=zZw FA.qf (by omega)
   have gs:=qUl s (by omega)
   cases T with
   | er m =>
    have g:=zZ7 (tl:=tl) (hs:=hs) (s:=s) (a:=a) (b:=b) (u:=u) (x:=x) (y:=b.f) (f:=f) g2
    rw [← e,← hx] at g
    exact⟨_,g,by first|exact ze _ rfl|exact qXr ‹_› | exact q1⟩
   | ok w =>
    have hw:w.size≤64:=z2
    cases hxh:x.has<;>rw [hxh] at g2
    ·have S1:=(hS.var (t:=u.ini) (qYg u su s.dep)).bare
     have gv:=qUm s u.ini (by rw [hS.vl];omega)
     have gh:=a72 (s.var u.ini) (by show s.ks.length≤mid;omega) (by show s.hyps≤mid;omega)
     obtain⟨r2,g3,q3⟩:=a69 HT b (n+1) _ _ h3 hbh (by rw [List.map_append,qJh,List.map_cons,hxh];exact S1) (by omega) (by simp;omega) (by show s.dep+_≤_;omega) (by show s.hyps+1+_≤_;omega)
     have g:=zZ8 (tl:=tl) (hs:=hs) (s:=s) (a:=a) (b:=b) (u:=u) (x:=x) (y:=b.f) (f:=f) g2 gv gh g3
     rw [← e,← hx] at g
     exact⟨_,g,q3⟩
    ·have ha:a.f.has=true:=by rw [e];exact hxh
     obtain⟨r,g1,q1⟩:=a69 HT a n hs s h1 ha hS (by omega) (by omega) (by omega) (by omega)
     have S0:=hS.bind.var (t:=u.ini) (qYg u su _)
     have S1:=S0.hyp (t:=.v 0) (TKv (by show 0<s.dep+1;omega)) true
     have gv:=qUm s.bind u.ini (by rw [hS.bind.vl];omega)
     have gh:=a73 (s.bind.var u.ini) (.v 0) (by show s.ks.length≤mid;omega) (by show s.hyps≤mid;omega)
     obtain⟨r2,g3,q3⟩:=a69 HT b (n+1) _ _ h3 hbh (by rw [List.map_append,qJh,List.map_cons,hxh];exact S1) (by omega) (by simp;omega) (by show s.dep+1+_≤_;omega) (by show s.hyps+1+_≤_;omega)
     have g:=zZ9 (tl:=tl) (hs:=hs) (s:=s) (a:=a) (b:=b) (u:=u) (x:=x) (y:=b.f) (f:=f) g2 gs gv gh g3 q3.cn (by rw [← e];exact g1) q1.cn
     rw [← e,← hx] at g
     rw [zt w rfl hxh] at g hw
     exact⟨_,g,qC1 (qXf hw q3) q1⟩
 | .impI x a,n,hs,s,⟨h0,h1,h2⟩,hf,hS,hn,hl,hd,hh=>by
  have hm:=qQd
  have hlm:lim=100000:=rfl
  simp only [Jt.p,Pf.cnt] at hn hl hd hh
  have hkl:s.ks.length=hs.length:=by have:=hS.kl;simpa using this
  have ha:a.f.has=true:=hf
  have ex:(Jt.impI x a).xt tl s=bif x.has then .lam x.cty (a.xt tl (s.bind.hyp (.v 0))) else a.xt tl s.bare:=rfl
  rw [BT,ex]
  obtain⟨T,g2,z2,ze,zt⟩:=zZw h0 (by omega)
  cases T with
  | er m=>exact⟨_,zZ2 g2,ze _ rfl⟩
  | ok u =>
   have hu:u.size≤64:=z2
   cases hxh:x.has<;>rw [hxh] at g2
   ·have S1:=hS.bare
    have gh:=a72 s (by omega) (by omega)
    obtain⟨r2,g3,q3⟩:=a69 HT a n _ _ h2 ha (by rw [List.map_append,List.map_cons,hxh];exact S1) (by omega) (by simp;omega) (by show s.dep+_≤_;omega) (by show s.hyps+1+_≤_;omega)
    exact⟨_,zZ3 g2 gh g3,q3⟩
   ·have S1:=hS.bind.hyp (t:=.v 0) (TKv (by show 0<s.dep+1;omega)) true
    have gs:=qUl s (by omega)
    have gh:=a73 s.bind (.v 0) (by show s.ks.length≤mid;omega) (by show s.hyps≤mid;omega)
    obtain⟨r2,g3,q3⟩:=a69 HT a n _ _ h2 ha (by rw [List.map_append,List.map_cons,hxh];exact S1) (by omega) (by simp;omega) (by show s.dep+1+_≤_;omega) (by show s.hyps+1+_≤_;omega)
    rw [zt u rfl hxh] at g2 hu
    exact⟨_,zZ4 g2 gs gh g3 q3.cn,qXf hu q3⟩
 | .all c u a,n,hs,s,⟨h0,h1,h2⟩,hf,hS,hn,hl,hd,hh=>by
  have hm:=qQd
  have hlm:lim=100000:=rfl
  simp only [Jt.p,Pf.cnt] at hn hl hd hh
  cases c
  ·have ha:a.f.has=true:=hf
   have S1:=hS.bind.var (t:=.v 0) (TKv (by show 0<s.dep+1;omega))
   have gs:=qUl s (by omega)
   have gv:=qUm s.bind (.v 0) (by rw [hS.bind.vl];omega)
   obtain⟨r2,g3,q3⟩:=a69 HT a (n+1) _ _ h2 ha (by rw [qJh];exact S1) (by omega) (by simp;omega) (by show s.dep+1+_≤_;omega) (by show s.hyps+_≤_;omega)
   exact⟨_,zV6 gs gv g3 q3.cn,qXf h0 q3⟩
  ·have ha:a.f.has=true:=hf
   have S1:=hS.var (t:=u.ini) (qYg u h0 s.dep)
   have gv:=qUm s u.ini (by rw [hS.vl];omega)
   obtain⟨r2,g3,q3⟩:=a69 HT a (n+1) _ _ h2 ha (by rw [qJh];exact S1) (by omega) (by simp;omega) (by show s.dep+_≤_;omega) (by show s.hyps+_≤_;omega)
   exact⟨_,zCz gv g3,q3⟩
 | .ins c t a f,n,hs,s,⟨h0,h1,h2,u,x,e,e1⟩,hf,hS,hn,hl,hd,hh=>by
  have hm:=qQd
  have hlm:lim=100000:=rfl
  simp only [Jt.p,Pf.cnt] at hn hl hd hh
  replace hf:f.has=true:=hf
  have hxh:x.has=true:=by rw [← qQ1 (qW1 e1)];exact hf
  cases c
  ·have ha:a.f.has=true:=by rw [e];exact hxh
   obtain⟨r,g1,q1⟩:=a69 HT a n hs s h2 ha hS (by omega) (by omega) (by omega) (by omega)
   have e:a.f = .q .all u x:=e
   have gp:=zE5 s t n hS.vl.symm hS.ve (by omega) (by rw [hS.vl];omega) h1
   have qp:(XR.fit (t.ps s.vs s.dep 0)).Gd s.dep (t.ps s.vs s.dep 0):=qTc hS h1
   have g:=zC0 (tl:=tl) (hs:=hs) (s:=s) (a:=a) (w:=t) (u:=u) (x:=x) (f:=f) (by rw [← e];exact g1) gp q1.cn qp.cn
   rw [← e] at g
   exact⟨_,g,qC1 q1 qp⟩
  ·have ha:a.f.has=true:=by rw [e];exact hxh
   obtain⟨r,g1,q1⟩:=a69 HT a n hs s h2 ha hS (by omega) (by omega) (by omega) (by omega)
   have e:a.f = .q .allU u x:=e
   have g:=zC1 (tl:=tl) (hs:=hs) (s:=s) (a:=a) (w:=t) (u:=u) (x:=x) (f:=f) (by rw [← e];exact g1)
   rw [← e] at g
   exact⟨_,g,q1⟩
 | .ex c x t a,n,hs,s,⟨h0,h1,h2,⟨u,e⟩,e1⟩,hf,hS,hn,hl,hd,hh=>by
  have hm:=qQd
  have hlm:lim=100000:=rfl
  simp only [Jt.p,Pf.cnt] at hn hl hd hh
  replace hf:x.has=true:=hf
  cases c
  ·have gp:=zE5 s t n hS.vl.symm hS.ve (by omega) (by rw [hS.vl];omega) h1
   have qp:(XR.fit (t.ps s.vs s.dep 0)).Gd s.dep (t.ps s.vs s.dep 0):=qTc hS h1
   cases ha:a.f.has
   ·exact⟨_,qTb ha gp,by show XR.Gd s.dep (bif a.f.has then _ else _) _;rw [qEh ha];exact qp⟩
   ·obtain⟨r,g1,q1⟩:=a69 HT a n hs s h2 ha hS (by omega) (by omega) (by omega) (by omega)
    exact⟨_,zX2 ha g1 gp q1.cn qp.cn,by show XR.Gd s.dep (bif a.f.has then _ else _) _;rw [qC2 ha];exact qC1 qp q1⟩
  ·have ha:a.f.has=true:=by
    rw [qQ1 e1]
    rw [e] at hf
    exact hf
   obtain⟨r,g1,q1⟩:=a69 HT a n hs s h2 ha hS (by omega) (by omega) (by omega) (by omega)
   exact⟨_,zG3 g1,q1⟩
 | .ind l x t a b f,n,hs,s,⟨h0,h1,h2,h3,e,⟨ea,eb⟩,h4⟩,hf,hS,hn,hl,hd,hh=>by
  have hm:=qQd
  have hlm:lim=100000:=rfl
  simp only [Jt.p,Pf.cnt] at hn hl hd hh
  have ct:=qBe t
  have cx:=zG4 x
  have ca:=qS7 a.p
  have hkl:s.ks.length=hs.length:=by have:=hS.kl;simpa using this
  replace hf:f.has=true:=hf
  have hxh:x.has=true:=by rw [← qQ1 (qW1 e)];exact hf
  have ha:a.f.has=true:=by rw [qQ1 ea];exact hxh
  have hbh:b.f.has=true:=by rw [qQ1 eb];exact hxh
  have gp:=zE5 s t n hS.vl.symm hS.ve (by omega) (by rw [hS.vl];omega) h2
  have qp:(XR.fit (t.ps s.vs s.dep 0)).Gd s.dep (t.ps s.vs s.dep 0):=qTc hS h2
  generalize XR.fit (t.ps s.vs s.dep 0)=rp at gp qp
  obtain⟨T,g2,z2,ze,zt⟩:=zZw h1 (by omega)
  obtain⟨r,g1,q1⟩:=a69 HT a n hs s h3 ha hS (by omega) (by omega) (by omega) (by omega)
  cases l
  ·cases rp with
   | er q m=>exact⟨_,zJa gp,qp⟩
   | ok tp=>cases T with
    | er m=>exact⟨_,zJb gp g2,ze _ rfl⟩
    | ok u =>
     have hu:u.size≤64:=z2
     cases r with
     | er q m=>exact⟨_,zJc gp g2 g1,q1⟩
     | ok v =>
      have S0:=hS.bind.var (t:=.v 0) (TKv (by show 0<s.dep+1;omega))
      have S1:=S0.bind.hyp (t:=.v 0) (TKv (by show 0<s.dep+1+1;omega)) true
      have gs:=qUl s (by omega)
      have gv:=qUm s.bind (.v 0) (by rw [hS.bind.vl];omega)
      have gs3:=qUl (s.bind.var (.v 0)) (by show s.dep+1≤mid;omega)
      have gh:=a73 (s.bind.var (.v 0)).bind (.v 0) (by show s.ks.length≤mid;omega) (by show s.hyps≤mid;omega)
      obtain⟨r2,g3,q3⟩:=a69 HT b (n+1) _ _ h4 hbh (by rw [List.map_append,qJh,List.map_cons,hxh];exact S1) (by omega) (by simp;omega) (by show s.dep+1+1+_≤_;omega) (by show s.hyps+1+_≤_;omega)
      have g:=zJd (tl:=tl) (hs:=hs) (s:=s) (a:=a) (b:=b) (x:=x) (y:=a.f) (z:=b.f) (f:=f) (w:=t) gp qp.1.cnt g2 g1 q1.1.cnt gs gv gs3 gh g3 q3.cn
      have q4:((r2.lam u).lam .nat).Gd s.dep _:=qXf (by decide) (qXf hu q3)
      refine⟨_,g,?_⟩
      cases e5:(r2.lam u).lam .nat with
      | er q m=>rw [e5] at q4;exact q4
      | ok k =>
       rw [e5] at q4
       refine qC0 ?_ ⟨q1.1.sc,q4.1.sc,qp.1.sc⟩ (by rw [q1.2,q4.2,qp.2,zt u rfl hxh];rfl)
       show (Nat.beq u.chk 0 && (_ && (_ && _)))=true
       rw [zAm hu,q1.1.shp,q4.1.shp,qp.1.shp];rfl
  ·cases rp with
   | er q m=>exact⟨_,zJe gp,qp⟩
   | ok tp=>cases T with
    | er m=>exact⟨_,zJf gp g2,ze _ rfl⟩
    | ok u =>
     have hu:u.size≤64:=z2
     cases r with
     | er q m=>exact⟨_,zJg gp g2 g1,q1⟩
     | ok v =>
      have S0:=hS.bind.var (t:=.v 0) (TKv (by show 0<s.dep+1;omega))
      have S2:=S0.bind.var (t:=.v 0) (TKv (by show 0<s.dep+1+1;omega))
      have S1:=S2.bind.hyp (t:=.v 0) (TKv (by show 0<s.dep+1+1+1;omega)) true
      have gs:=qUl s (by omega)
      have gv:=qUm s.bind (.v 0) (by rw [hS.bind.vl];omega)
      have gs2:=qUl (s.bind.var (.v 0)) (by show s.dep+1≤mid;omega)
      have gv2:=qUm (s.bind.var (.v 0)).bind (.v 0) (by rw [S0.bind.vl];omega)
      have gs3:=qUl ((s.bind.var (.v 0)).bind.var (.v 0)) (by show s.dep+1+1≤mid;omega)
      have gh:=a73 ((s.bind.var (.v 0)).bind.var (.v 0)).bind (.v 0) (by show s.ks.length≤mid;omega) (by show s.hyps≤mid;omega)
      have hxs:(x.sh 1 (.ofNat 1)).has=true:=by rw [qQ1 (qYz _ x 1)];exact hxh
      obtain⟨r2,g3,q3⟩:=a69 HT b (n+2) _ _ h4 hbh (by rw [List.map_append,qJh,List.map_cons,hxs];exact S1) (by omega) (by simp;omega) (by show s.dep+1+1+1+_≤_;omega) (by show s.hyps+1+_≤_;omega)
      have g:=zJh (tl:=tl) (hs:=hs) (s:=s) (a:=a) (b:=b) (x:=x) (y:=a.f) (z:=b.f) (f:=f) (w:=t) gp qp.1.cnt g2 g1 q1.1.cnt gs gv gs2 gv2 gs3 gh g3 q3.cn
      have q4:(((r2.lam u).lam .list).lam .nat).Gd s.dep _:=qXf (by decide) (qXf (by decide) (qXf hu q3))
      refine⟨_,g,?_⟩
      cases e5:((r2.lam u).lam .list).lam .nat with
      | er q m=>rw [e5] at q4;exact q4
      | ok k =>
       rw [e5] at q4
       refine qC0 ?_ ⟨q1.1.sc,q4.1.sc,qp.1.sc⟩ (by rw [q1.2,q4.2,qp.2,zt u rfl hxh];rfl)
       show (Nat.beq u.chk 0 && (_ && (_ && _)))=true
       rw [zAm hu,q1.1.shp,q4.1.shp,qp.1.shp];rfl
 | .subst x a b f,n,hs,s,⟨h0,h1,h2,h3,eb,t,u,e,e1⟩,hf,hS,hn,hl,hd,hh=>by
  have hm:=qQd
  simp only [Jt.p,Pf.cnt] at hn hl hd hh
  replace hf:f.has=true:=hf
  have hbh:b.f.has=true:=by rw [qQ1 eb,← qQ1 (qW1 e1)];exact hf
  obtain⟨r,g1,q1⟩:=a69 HT b n hs s h3 hbh hS (by omega) (by omega) (by omega) (by omega)
  exact⟨_,zX3 g1,q1⟩
def upR (ρ:Nat→Nat):Nat→Nat
 | 0=>0
 | n+1=>ρ n+1
def Tm.ren:(Nat→Nat)→Tm→Tm
 | ρ,.v i => .v (ρ i)
 | ρ,.lam s b => .lam s (b.ren (upR ρ))
 | _,.n0 k => .n0 k
 | ρ,.n1 k a => .n1 k (a.ren ρ)
 | ρ,.n2 k a b => .n2 k (a.ren ρ) (b.ren ρ)
 | ρ,.n3 k s a b c => .n3 k s (a.ren ρ) (b.ren ρ) (c.ren ρ)
def upS (σ:Nat→Tm):Nat→Tm
 | 0 => .v 0
 | n+1=>(σ n).sh 0 (.ofNat 1)
def Tm.sub:(Nat→Tm)→Tm→Tm
 | σ,.v i=>σ i
 | σ,.lam s b => .lam s (b.sub (upS σ))
 | _,.n0 k => .n0 k
 | σ,.n1 k a => .n1 k (a.sub σ)
 | σ,.n2 k a b => .n2 k (a.sub σ) (b.sub σ)
 | σ,.n3 k s a b c => .n3 k s (a.sub σ) (b.sub σ) (c.sub σ)
theorem qV8 (k:Nat):∀ (t:Tm) (c:Nat),t.sh c (.ofNat k)=t.ren fun i=>if c≤i then i+k else i
 | .v i,c=>by simp only [Tm.sh,Tm.ren];split<;>rfl
 | .lam s b,c=>by
  simp only [Tm.sh,Tm.ren,qV8 k b]
  congr 2
  funext i
  cases i with
  | zero=>rfl
  | succ i=>simp only [upR];split<;>split<;>omega
 | .n0 _,_=>rfl
 | .n1 _ a,c=>by simp only [Tm.sh,Tm.ren,qV8 k a]
 | .n2 _ a b,c=>by simp only [Tm.sh,Tm.ren,qV8 k a,qV8 k b]
 | .n3 _ _ a b d,c=>by simp only [Tm.sh,Tm.ren,qV8 k a,qV8 k b,qV8 k d]
theorem qWn (t:Tm):t.sh 0 (.ofNat 1)=t.ren (· + 1):=by
 rw [qV8];congr 1
theorem qVb:∀ (t:Tm) (ρ τ:Nat→Nat),(t.ren ρ).ren τ=t.ren fun i=>τ (ρ i)
 | .v i,_,_=>rfl
 | .lam s b,ρ,τ=>by
  simp only [Tm.ren,qVb b]
  congr 2
  funext i
  cases i<;>rfl
 | .n0 _,_,_=>rfl
 | .n1 _ a,_,_=>by simp only [Tm.ren,qVb a]
 | .n2 _ a b,_,_=>by simp only [Tm.ren,qVb a,qVb b]
 | .n3 _ _ a b d,_,_=>by simp only [Tm.ren,qVb a,qVb b,qVb d]
theorem qVc:∀ (t:Tm) (ρ:Nat→Nat) (σ:Nat→Tm),(t.ren ρ).sub σ=t.sub fun i=>σ (ρ i)
 | .v i,_,_=>rfl
 | .lam s b,ρ,σ=>by
  simp only [Tm.ren,Tm.sub,qVc b]
  congr 2
  funext i
  cases i<;>rfl
 | .n0 _,_,_=>rfl
 | .n1 _ a,_,_=>by simp only [Tm.ren,Tm.sub,qVc a]
 | .n2 _ a b,_,_=>by simp only [Tm.ren,Tm.sub,qVc a,qVc b]
 | .n3 _ _ a b d,_,_=>by simp only [Tm.ren,Tm.sub,qVc a,qVc b,qVc d]
theorem qVd:∀ (t:Tm) (σ:Nat→Tm) (ρ:Nat→Nat),(t.sub σ).ren ρ=t.sub fun i=>(σ i).ren ρ
 | .v i,_,_=>rfl
 | .lam s b,σ,ρ=>by
  simp only [Tm.ren,Tm.sub,qVd b]
  congr 2
  funext i
  cases i with
  | zero=>rfl
  | succ i=>simp only [upS,qWn,qVb];rfl
 | .n0 _,_,_=>rfl
 | .n1 _ a,_,_=>by simp only [Tm.ren,Tm.sub,qVd a]
 | .n2 _ a b,_,_=>by simp only [Tm.ren,Tm.sub,qVd a,qVd b]
 | .n3 _ _ a b d,_,_=>by simp only [Tm.ren,Tm.sub,qVd a,qVd b,qVd d]
theorem zYf (t:Tm) (σ:Nat→Tm):(t.sh 0 (.ofNat 1)).sub (upS σ)=(t.sub σ).sh 0 (.ofNat 1):=by
 rw [qWn,qVc,qWn,qVd]
 congr 1
 funext i
 exact qWn _
theorem qWo:∀ (t:Tm) (σ τ:Nat→Tm),(t.sub σ).sub τ=t.sub fun i=>(σ i).sub τ
 | .v i,_,_=>rfl
 | .lam s b,σ,τ=>by
  simp only [Tm.sub,qWo b]
  congr 2
  funext i
  cases i with
  | zero=>rfl
  | succ i=>exact zYf _ _
 | .n0 _,_,_=>rfl
 | .n1 _ a,_,_=>by simp only [Tm.sub,qWo a]
 | .n2 _ a b,_,_=>by simp only [Tm.sub,qWo a,qWo b]
 | .n3 _ _ a b d,_,_=>by simp only [Tm.sub,qWo a,qWo b,qWo d]
theorem qJi:∀ (t:Tm) (σ τ:Nat→Tm),(∀ i,t.occ i≠0→σ i=τ i)→t.sub σ=t.sub τ
 | .v i,_,_,h=>h i (by simp [Tm.occ])
 | .lam s b,σ,τ,h=>by
  simp only [Tm.sub]
  rw [qJi b (upS σ) (upS τ) fun i hi=>by
   cases i with
   | zero=>rfl
   | succ i=>simp only [upS];rw [h i hi]]
 | .n0 _,_,_,_=>rfl
 | .n1 _ a,_,_,h=>by simp only [Tm.sub];rw [qJi a _ _ h]
 | .n2 _ a b,_,_,h=>by
  simp only [Tm.sub]
  rw [qJi a _ _ fun i hi=>h i (by simp only [Tm.occ];omega),qJi b _ _ fun i hi=>h i (by simp only [Tm.occ];omega)]
 | .n3 _ _ a b d,_,_,h=>by
  simp only [Tm.sub]
  rw [qJi a _ _ fun i hi=>h i (by simp only [Tm.occ];omega),qJi b _ _ fun i hi=>h i (by simp only [Tm.occ];omega),qJi d _ _ fun i hi=>h i (by simp only [Tm.occ];omega)]
theorem zG5:upS Tm.v=Tm.v:=by
 funext i
 cases i with
 | zero=>rfl
 | succ i=>simp [upS,Tm.sh]
theorem qF8:∀ t:Tm,t.sub Tm.v=t
 | .v _=>rfl
 | .lam s b=>by simp only [Tm.sub,zG5,qF8 b]
 | .n0 _=>rfl
 | .n1 _ a=>by simp only [Tm.sub,qF8 a]
 | .n2 _ a b=>by simp only [Tm.sub,qF8 a,qF8 b]
 | .n3 _ _ a b d=>by simp only [Tm.sub,qF8 a,qF8 b,qF8 d]
theorem qNg {t:Tm} {n i:Nat} (h:t.sc n) (ho:t.occ i≠0):i<n:=by
 have:=(qDm t _).1 h
 rcases Nat.lt_or_ge i n with h|h
 ·exact h
 ·exact absurd (qYe t i (by omega)) ho
theorem zC3 {t:Tm} (h:t.sc 0) (σ:Nat→Tm):t.sub σ=t:=by
 rw [qJi t σ .v fun i hi=>absurd (qNg h hi) (by omega),qF8]
theorem qH7 (t:Tm) (k:Nat):(t.sh 0 (.ofNat k)).sh 0 (.ofNat 1)=t.sh 0 (.ofNat (k+1)):=by
 rw [qWn,qV8 k t,qVb,qV8]
 congr 1
theorem qVm (vs:List (Tm × Nat)) (d:Nat):∀ (t:Tm) (b:Nat),t.ps vs d b=t.sub fun i=>(Tm.v i).ps vs d b
 | .v i,_=>rfl
 | .lam s t,b=>by
  simp only [Tm.ps,Tm.sub]
  rw [qVm vs d t (b+1)]
  congr 2
  funext i
  cases i with
  | zero=>simp [Tm.ps,upS]
  | succ i =>
   simp only [Tm.ps,upS,Nat.add_lt_add_iff_right,Nat.add_sub_add_right]
   split
   ·simp [Tm.sh]
   ·split
    ·rw [qH7];rfl
    ·simp [Tm.sh]
 | .n0 _,_=>rfl
 | .n1 _ a,b=>by simp only [Tm.ps,Tm.sub];rw [qVm vs d a b];rfl
 | .n2 _ x y,b=>by simp only [Tm.ps,Tm.sub];rw [qVm vs d x b,qVm vs d y b];rfl
 | .n3 _ _ x y z,b=>by simp only [Tm.ps,Tm.sub];rw [qVm vs d x b,qVm vs d y b,qVm vs d z b];rfl
theorem qVe (c:Nat) (S:Tm):∀ (t:Tm) (d:Nat),t.put c S d=t.sub fun i=>(Tm.v i).put c S d
 | .v i,_=>rfl
 | .lam s t,d=>by
  simp only [Tm.put,Tm.sub]
  rw [qVe c S t (d+1)]
  congr 2
  funext i
  cases i with
  | zero =>
   simp only [Tm.put,upS]
   rw [if_neg (by omega),if_neg (by omega)]
  | succ i =>
   simp only [Tm.put,upS]
   by_cases e:i=c+d
   ·rw [if_pos (by omega),if_pos e,qH7];rfl
   ·rw [if_neg (by omega),if_neg e]
    by_cases e':c+d<i
    ·rw [if_pos (by omega),if_pos e']
     simp only [Tm.sh,Nat.zero_le,if_true]
     congr 1
     show i=(Int.ofNat (i-1)+Int.ofNat 1).toNat
     simp;omega
    ·rw [if_neg (by omega),if_neg e']
     simp [Tm.sh]
 | .n0 _,_=>rfl
 | .n1 _ a,d=>by simp only [Tm.put,Tm.sub];rw [qVe c S a d];rfl
 | .n2 _ x y,d=>by simp only [Tm.put,Tm.sub];rw [qVe c S x d,qVe c S y d];rfl
 | .n3 _ _ x y z,d=>by simp only [Tm.put,Tm.sub];rw [qVe c S x d,qVe c S y d,qVe c S z d];rfl
open Go.Lg
set_option maxRecDepth 100000
theorem qH8:∀ f:Fm,f.er.cty=f.cty
 | .eq _ _=>rfl
 | .bin k f g=>by cases k<;>simp only [Fm.er,Fm.cty,qCw,qH8 f,qH8 g]
 | .q k _ f=>by cases k<;>simp only [Fm.er,Fm.cty,qCw,qH8 f]
theorem qEi {f g:Fm} (e:f.er=g.er):f.cty=g.cty:=(qH8 f).symm.trans ((congrArg Fm.cty e).trans (qH8 g))
def PX:(Nat→Tm)→Pf→Pf→Prop
 | _,.leaf u i,p=>p = .leaf u i
 | _,.refl _,p => ∃ t,p = .refl t
 | σ,.p1 k a,p => ∃ a',p = .p1 k a'∧PX σ a a'
 | σ,.p2 k a b,p => ∃ a' b',p = .p2 k a' b'∧PX σ a a'∧PX (match k with | .andI=>σ | .impE=>σ|_=>upS σ) b b'
 | σ,.impI x a,p => ∃ x' a',p = .impI x' a'∧x'.er=x.er∧PX σ a a'
 | σ,.all u s a,p => ∃ a',p = .all u s a'∧PX (upS σ) a a'
 | σ,.ins u t a,p => ∃ t' a',p = .ins u t' a'∧(u=false→t'=t.sub σ)∧PX σ a a'
 | σ,.ex u x t a,p => ∃ x' t' a',p = .ex u x' t' a'∧x'.er=x.er∧(u=false→t'=t.sub σ)∧PX σ a a'
 | σ,.ind l x t a b,p => ∃ x' t' a' b',p = .ind l x' t' a' b'∧x'.er=x.er∧t'=t.sub σ∧PX σ a a'∧PX (match l with|false=>upS σ|true=>upS (upS σ)) b b'
 | σ,.subst x a b,p => ∃ x' a' b',p = .subst x' a' b'∧x'.er=x.er∧PX σ a a'∧PX σ b b'
theorem zG6 {hs hs':List Fm} (e:hs'.map Fm.er=hs.map Fm.er) {i:Nat} {f f':Fm} (h:hs[i]? = some f) (h':hs'[i]? = some f'):f'.er=f.er:=by
 have:=congrArg (fun l=>l[i]?) e
 simp only [List.getElem?_map,h,h',Option.map_some] at this
 exact Option.some.inj this
theorem zC4 {hs hs':List Fm} (e:hs'.map Fm.er=hs.map Fm.er):hs'.length=hs.length:=by
 have:=congrArg List.length e
 simpa using this
theorem qTd {k k':FB} {a b c d:Fm} (e:(Fm.bin k a b).er=(Fm.bin k' c d).er):a.er=c.er∧b.er=d.er:=by
 simp only [Fm.er,Fm.bin.injEq] at e
 exact e.2
theorem zC5 {k k':FQ} {s u:Ty} {a c:Fm} (e:(Fm.q k s a).er=(Fm.q k' u c).er):s=u∧a.er=c.er:=by
 simp only [Fm.er,Fm.q.injEq] at e
 exact e.2
theorem zJi {f g:Fm} (e:f.er=g.er):f.bd.er=g.bd.er:=by
 cases f<;>cases g<;>simp only [Fm.er,reduceCtorEq] at e<;>first|rfl|(simp only [Fm.bd,Fm.er] at *;first|exact e|(injection e))
theorem zC6 {f g:Fm} (e:f.er=g.er):f.qs=g.qs:=by
 cases f<;>cases g<;>simp only [Fm.er,reduceCtorEq] at e<;>first|rfl|(injection e)
theorem qH9 {hs hs':List Fm} {x x':Fm} (k:Nat) (e:hs'.map Fm.er=hs.map Fm.er) (ex:x'.er=x.er):(upH k hs'++[x']).map Fm.er=(upH k hs++[x]).map Fm.er:=by
 rw [List.map_append,List.map_append,qEf,qEf,e]
 simp only [List.map_cons,List.map_nil,ex]
theorem qY3 (ls:List Fm):∀ (j j':Jt) (n n':Nat) (hs hs':List Fm) (σ:Nat→Tm),j.OK ls n hs→j'.OK ls n' hs'→hs'.map Fm.er=hs.map Fm.er→PX σ j.p j'.p→j'.f.er=j.f.er
 | .leaf u i f,j',n,n',hs,hs',σ,h,h',e,r=>by
  cases j' with
  | leaf u' i' f' =>
   obtain⟨-,h⟩:=h
   obtain⟨-,h'⟩:=h'
   have r:Pf.leaf u' i' = .leaf u i:=r
   cases r
   cases u
   ·rw [zC4 e] at h'
    exact zG6 e h.2 h'.2
   ·have:some f'=some f:=by rw [← h,← h']
    cases this;rfl
  | _=>cases r
 | .refl t,j',n,n',hs,hs',σ,h,h',e,r=>by
  cases j' with
  | refl t'=>rfl
  | _=>obtain⟨_,r⟩:=r;cases r
 | .p1 k a f,j',n,n',hs,hs',σ,⟨_,h1,h2⟩,h',e,⟨a',r,ra⟩=>by
  cases j' with
  | p1 k' b f' =>
   obtain⟨-,h1',h2'⟩:=h'
   cases r
   have q:=qY3 ls a b n n' hs hs' σ h1 h1' e ra
   cases k
   ·obtain⟨y,e1⟩:=h2
    obtain⟨y',e2⟩:=h2'
    rw [e1,e2] at q
    exact (qTd q).1
   ·obtain⟨y,e1⟩:=h2
    obtain⟨y',e2⟩:=h2'
    rw [e1,e2] at q
    exact (qTd q).2
   ·obtain⟨s,u,x,e1,y,e3,e5⟩:=h2
    obtain⟨s',u',x',e2,y',e4,e6⟩:=h2'
    rw [e1,e2] at q
    obtain⟨es,q⟩:=zC5 q
    obtain⟨eu,q⟩:=zC5 q
    show f'.er=f.er
    rw [e5,e6]
    simp only [Fm.er]
    rw [qW1 e3,qW1 e4,qYz,qYz,q,es,eu]
  | _=>cases r
 | .p2 k a b f,j',n,n',hs,hs',σ,⟨_,h1,h2⟩,h',e,⟨a',b',r,ra,rb⟩=>by
  cases j' with
  | p2 k' c d f' =>
   obtain⟨-,h1',h2'⟩:=h'
   cases r
   have q:=qY3 ls a c n n' hs hs' σ h1 h1' e ra
   show f'.er=f.er
   cases k
   ·obtain⟨h3,e1⟩:=h2
    obtain⟨h3',e2⟩:=h2'
    rw [e1,e2]
    simp only [Fm.er]
    rw [q,qY3 ls b d n n' hs hs' σ h3 h3' e rb]
   ·obtain⟨h3,x,e1⟩:=h2
    obtain⟨h3',x',e2⟩:=h2'
    rw [e1,e2] at q
    exact (qTd q).2
   ·obtain⟨h3,_,e1⟩:=h2
    obtain⟨h3',_,e2⟩:=h2'
    rw [qAg e1,qAg e2]
    exact qY3 ls b d _ _ _ _ _ h3 h3' (qH9 1 e (zJi q)) rb
   ·obtain⟨h3,_,e1⟩:=h2
    obtain⟨h3',_,e2⟩:=h2'
    rw [qAg e1,qAg e2]
    exact qY3 ls b d _ _ _ _ _ h3 h3' (qH9 1 e (zJi q)) rb
  | _=>cases r
 | .impI x a,j',n,n',hs,hs',σ,⟨_,_,h1⟩,h',e,⟨x',a',r,rx,ra⟩=>by
  cases j' with
  | impI x2 b =>
   obtain⟨-,-,h1'⟩:=h'
   cases r
   show Fm.bin .imp x'.er b.f.er=Fm.bin .imp x.er a.f.er
   rw [rx,qY3 ls a b n n' _ _ σ h1 h1' (by rw [List.map_append,List.map_append,e];simp only [List.map_cons,List.map_nil,rx]) ra]
  | _=>cases r
 | .all u s a,j',n,n',hs,hs',σ,⟨_,_,h1⟩,h',e,⟨a',r,ra⟩=>by
  cases j' with
  | all u' s' b =>
   obtain⟨-,-,h1'⟩:=h'
   cases r
   show Fm.q _ _ b.f.er=Fm.q _ _ a.f.er
   rw [qY3 ls a b _ _ _ _ _ h1 h1' (by rw [qEf,qEf,e]) ra]
  | _=>cases r
 | .ins u t a f,j',n,n',hs,hs',σ,⟨_,_,h1,s,x,e1,e3⟩,h',e,⟨t',a',r,rt,ra⟩=>by
  cases j' with
  | ins u' t2 b f' =>
   obtain⟨-,-,h1',s',x',e2,e4⟩:=h'
   cases r
   have q:=qY3 ls a b n n' hs hs' σ h1 h1' e ra
   rw [e1,e2] at q
   show f'.er=f.er
   rw [qW1 e3,qW1 e4,(zC5 q).2]
  | _=>cases r
 | .ex u x t a,j',n,n',hs,hs',σ,h,h',e,⟨x',t',a',r,rx,_⟩=>by
  cases j' with
  | ex u' x2 t2 b=>cases r;exact rx
  | _=>cases r
 | .ind l x t a b f,j',n,n',hs,hs',σ,⟨_,_,_,_,e1,_⟩,h',e,⟨x',t',a',b',r,rx,_⟩=>by
  cases j' with
  | ind l' x2 t2 c d f' =>
   obtain⟨-,-,-,-,e2,-⟩:=h'
   cases r
   show f'.er=f.er
   rw [qW1 e1,qW1 e2,rx]
  | _=>cases r
 | .subst x a b f,j',n,n',hs,hs',σ,⟨_,_,_,_,_,_,_,_,e1⟩,h',e,⟨x',a',b',r,rx,_⟩=>by
  cases j' with
  | subst x2 c d f' =>
   obtain⟨-,-,-,-,-,_,_,-,e2⟩:=h'
   cases r
   show f'.er=f.er
   rw [qW1 e1,qW1 e2,rx]
  | _=>cases r
theorem vps {vs:List (Tm × Nat)} {d i:Nat} {e:Tm × Nat} (h:ent vs i=some e):(Tm.v i).ps vs d 0=e.1.sh 0 (.ofNat (d-e.2)):=by
 simp only [Tm.ps,Nat.not_lt_zero,if_false,Nat.sub_zero,h,Nat.add_zero]
theorem zV7 {vs:List (Tm × Nat)} {d:Nat} (hv:EOK d vs) {t:Tm} (ht:t.sc vs.length):t.ps vs (d+1) 0=(t.ps vs d 0).sh 0 (.ofNat 1):=by
 rw [qVm,qVm vs d t,qWn,qVd]
 refine qJi _ _ _ fun i hi => ?_
 obtain⟨e,h,hm⟩:=qBh (qNg ht hi)
 rw [vps h,vps h,← qWn,qH7,show d+1-e.2=d-e.2+1 by have:=(hv e hm).1;omega]
theorem zV8 (vs:List (Tm × Nat)) (d:Nat) (e:Tm × Nat) {t:Tm} (ht:t.sc vs.length):(t.sh 0 (.ofNat 1)).ps (vs++[e]) d 0=t.ps vs d 0:=by
 rw [qVm,qWn,qVc,qVm vs]
 refine qJi _ _ _ fun i hi => ?_
 obtain⟨x,h,_⟩:=qBh (qNg ht hi)
 rw [vps h,vps (e:=x) (by rw [zG1];exact h)]
structure SX (σ τ:Nat→Tm) (U:Nat→Prop) (s s':Sc):Prop where
 v:∀ v,U v→v<s.vs.length→(σ v).sc s'.vs.length∧(σ v).ps s'.vs s'.dep 0=((Tm.v v).ps s.vs s.dep 0).sub τ
 l:s'.ks.length=s.ks.length
 k:∀ i,i<s.ks.length→s'.hy i=(s.hy i).sub τ
theorem SX.mono {σ τ:Nat→Tm} {U W:Nat→Prop} {s s':Sc} (h:SX σ τ U s s') (hu:∀ v,W v→U v):SX σ τ W s s':=⟨fun v hv=>h.v v (hu v hv),h.l,h.k⟩
theorem qTe {n:Nat} {bs:List Bool} {s:Sc} (h:ScOK n bs s) (i:Nat):s.bind.hy i=(s.hy i).sh 0 (.ofNat 1):=by
 unfold Sc.hy
 show (match s.ks[s.ks.length-1-i]? with|some (.hy t d _)=>t.sh 0 (.ofNat (s.dep+1-d))|_ => .n0 .unit)=_
 cases e:s.ks[s.ks.length-1-i]? with
 | none=>rfl
 | some x=>cases x with
  | bare p=>rfl
  | hy t d p =>
   have:=(h.ke _ (List.mem_of_getElem? e) t d p rfl).1
   simp only
   rw [qH7,show s.dep+1-d=s.dep-d+1 by omega]
theorem SX.bind {σ τ:Nat→Tm} {U:Nat→Prop} {s s':Sc} {n n':Nat} {bs bs':List Bool} (h:SX σ τ U s s') (h1:ScOK n bs s) (h2:ScOK n' bs' s'):SX σ (upS τ) U s.bind s'.bind :=
 ⟨fun v hv hl=>by
  obtain⟨c,e⟩:=h.v v hv hl
  refine⟨c,?_⟩
  show (σ v).ps s'.vs (s'.dep+1) 0=((Tm.v v).ps s.vs (s.dep+1) 0).sub (upS τ)
  rw [zV7 h2.ve c,e,zV7 h1.ve (show (Tm.v v).sc s.vs.length from hl),zYf],h.l,fun i hi=>by rw [qTe h1,qTe h2,h.k i hi,zYf]⟩
theorem zC7 (vs:List (Tm × Nat)) (d:Nat) (t:Tm):(Tm.v 0).ps (vs++[(t,d)]) d 0=t:=by
 rw [vps (zG0 vs (t,d))]
 show t.sh 0 (.ofNat (d-d))=t
 rw [Nat.sub_self,qM5]
theorem SX.var {σ τ:Nat→Tm} {U W:Nat→Prop} {s s':Sc} {t t':Tm} (h:SX σ τ U s s') (ht:t'=t.sub τ) (hu:∀ v,W (v+1)→U v):SX (upS σ) τ W (s.var t) (s'.var t') :=
 ⟨fun v hv hl=>by
  have el:(s'.var t').vs.length=s'.vs.length+1:=by simp [Sc.var]
  cases v with
  | zero =>
   refine⟨by rw [el];exact Nat.succ_pos _,?_⟩
   show (Tm.v 0).ps (s'.vs++[(t',s'.dep)]) s'.dep 0=((Tm.v 0).ps (s.vs++[(t,s.dep)]) s.dep 0).sub τ
   rw [zC7,zC7,ht]
  | succ v =>
   have hl:v<s.vs.length:=by simp [Sc.var] at hl;omega
   obtain⟨c,e⟩:=h.v v (hu v hv) hl
   refine⟨by rw [el];exact qY1 1 _ 0 _ c,?_⟩
   show ((σ v).sh 0 (.ofNat 1)).ps (s'.vs++[(t',s'.dep)]) s'.dep 0=((Tm.v (v+1)).ps (s.vs++[(t,s.dep)]) s.dep 0).sub τ
   rw [zV8 _ _ _ c,e,← zV8 s.vs s.dep (t,s.dep) (show (Tm.v v).sc s.vs.length from hl)]
   simp [Tm.sh],h.l,h.k⟩
theorem qNh (s:Sc) (x:Hy) (d h:Nat) (i:Nat) (hi:i<s.ks.length):(⟨s.dep,h,s.vs,s.ks++[x]⟩:Sc).hy (i+1)=s.hy i:=by
 unfold Sc.hy
 simp only [List.length_append,List.length_cons,List.length_nil]
 rw [show s.ks.length+(0+1)-1-(i+1)=s.ks.length-1-i by omega,List.getElem?_append_left (by omega)]
theorem zE6 (s:Sc) (x:Hy) (h:Nat):(⟨s.dep,h,s.vs,s.ks++[x]⟩:Sc).hy 0=match x with | .hy t d _=>t.sh 0 (.ofNat (s.dep-d))|_ => .n0 .unit:=by
 unfold Sc.hy
 simp only [List.length_append,List.length_cons,List.length_nil]
 rw [show s.ks.length+(0+1)-1-0=s.ks.length by omega,List.getElem?_append_right (Nat.le_refl _),Nat.sub_self]
 cases x<;>rfl
theorem SX.hyp {σ τ:Nat→Tm} {U:Nat→Prop} {s s':Sc} {t t':Tm} (h:SX σ τ U s s') (ht:t'=t.sub τ):SX σ τ U (s.hyp t) (s'.hyp t') :=
 ⟨h.v,by simp [Sc.hyp,h.l],fun i hi=>by
  cases i with
  | zero =>
   rw [Sc.hyp,Sc.hyp,zE6,zE6]
   simp only [Nat.sub_self,qM5]
   exact ht
  | succ i =>
   have hi:i<s.ks.length:=by simp [Sc.hyp] at hi;omega
   rw [Sc.hyp,Sc.hyp,qNh s _ 0 _ i hi,qNh s' _ 0 _ i (by rw [h.l];exact hi)]
   exact h.k i hi⟩
theorem SX.bare {σ τ:Nat→Tm} {U:Nat→Prop} {s s':Sc} (h:SX σ τ U s s'):SX σ τ U s.bare s'.bare :=
 ⟨h.v,by simp [Sc.bare,h.l],fun i hi=>by
  cases i with
  | zero=>rw [Sc.bare,Sc.bare,zE6,zE6];rfl
  | succ i =>
   have hi:i<s.ks.length:=by simp [Sc.bare] at hi;omega
   rw [Sc.bare,Sc.bare,qNh s _ 0 _ i hi,qNh s' _ 0 _ i (by rw [h.l];exact hi)]
   exact h.k i hi⟩
theorem SX.tm {σ τ:Nat→Tm} {U:Nat→Prop} {s s':Sc} {n:Nat} {t:Tm} (h:SX σ τ U s s') (hn:s.vs.length=n) (ht:t.sc n) (hu:∀ v,t.occ v≠0→U v):(t.sub σ).ps s'.vs s'.dep 0=(t.ps s.vs s.dep 0).sub τ:=by
 rw [qVm,qWo,qVm s.vs,qWo]
 refine qJi _ _ _ fun i hi => ?_
 rw [← (h.v i (hu i hi) (by rw [hn];exact qNg ht hi)).2,← qVm]
theorem qTf {f g:Fm} (e:f.er=g.er):f.both=g.both:=by
 cases f<;>cases g<;>simp only [Fm.er,reduceCtorEq] at e<;>first|rfl|(simp only [Fm.bin.injEq] at e;simp only [Fm.both,qQ1 e.2.1,qQ1 e.2.2])
theorem zYg {f g:Fm} (e:f.er=g.er) (τ:Nat→Tm) (t:Tm):zYe f (t.sub τ)=(zYe g t).sub τ:=by
 cases f with
 | q k s f=>cases g with
  | q k' s' g =>
   obtain⟨es,e⟩:=zC5 e
   cases f with
   | q l u f=>cases g with
    | q l' u' g =>
     obtain⟨eu,e⟩:=zC5 e
     simp only [zYe,qQ1 e,qEi e,es,eu]
     cases g.has
     ·rfl
     ·rfl
    | _=>cases e
   | _=>cases g with
    | q l' u' g=>cases e
    | _=>rfl
  | _=>cases e
 | _=>cases g with
  | q k' s' g=>cases e
  | _=>rfl
open Go.Lg
set_option maxRecDepth 100000
theorem qPf (hs:List Fm) (x:Fm) (k:Nat):(upH k hs++[x]).map Fm.has=hs.map Fm.has++[x.has]:=by
 rw [List.map_append,qJh];rfl
theorem qL0 (t:Ty) (τ:Nat→Tm):t.ini=t.ini.sub τ:=(zC3 (qH6 t 0) τ).symm
theorem qZh {ls:List Fm} {tl:List Tm} (ht:∀ (i:Nat) (t:Tm),tl[i]? = some t→t.sc 0):∀ (j j':Jt) (n n':Nat) (hs hs':List Fm) (σ τ:Nat→Tm) (s s':Sc),j.OK ls n hs→j'.OK ls n' hs'→hs'.map Fm.er=hs.map Fm.er→PX σ j.p j'.p→ScOK n (hs.map Fm.has) s→ScOK n' (hs.map Fm.has) s'→SX σ τ j.us s s'→j.f.has=true→j'.xt tl s'=(j.xt tl s).sub τ
 | .leaf u i f,j',n,n',hs,hs',σ,τ,s,s',h,h',e,r,S,S',R,hf=>by
  cases j' with
  | leaf u' i' f' =>
   have r:Pf.leaf u' i' = .leaf u i:=r
   cases r
   cases u
   ·refine R.k i ?_
    rw [S.kl,List.length_map]
    exact h.2.1
   ·show (match tl[i]? with|some t=>t|none => .n0 .unit)=Tm.sub τ (match tl[i]? with|some t=>t|none => .n0 .unit)
    cases e1:tl[i]? with
    | none=>rfl
    | some t=>exact (zC3 (ht _ _ e1) τ).symm
  | _=>cases r
 | .refl t,j',n,n',hs,hs',σ,τ,s,s',h,h',e,r,S,S',R,hf=>by cases hf
 | .p1 k a f,j',n,n',hs,hs',σ,τ,s,s',⟨g0,g1,g2⟩,h',e,⟨a',r,ra⟩,S,S',R,hf=>by
  cases j' with
  | p1 k' b f' =>
   obtain⟨-,h1',h2'⟩:=h'
   cases r
   replace hf:f.has=true:=hf
   have q:=qY3 ls a b n n' hs hs' σ g1 h1' e ra
   have Ra:SX σ τ a.us s s':=R.mono fun v hv=>⟨hf,hv⟩
   cases k
   ·obtain⟨y,e1⟩:=g2
    have ha:a.f.has=true:=by rw [e1];show (f.has || y.has)=true;rw [hf];rfl
    have ih:=qZh ht a b n n' hs hs' σ τ s s' g1 h1' e ra S S' Ra ha
    show (bif b.f.both then Tm.n1 .fst (b.xt tl s') else b.xt tl s')=(bif a.f.both then Tm.n1 .fst (a.xt tl s) else a.xt tl s).sub τ
    rw [qTf q,ih]
    cases a.f.both<;>rfl
   ·obtain⟨y,e1⟩:=g2
    have ha:a.f.has=true:=by rw [e1];show (y.has || f.has)=true;rw [hf];cases y.has<;>rfl
    have ih:=qZh ht a b n n' hs hs' σ τ s s' g1 h1' e ra S S' Ra ha
    show (bif b.f.both then Tm.n1 .snd (b.xt tl s') else b.xt tl s')=(bif a.f.both then Tm.n1 .snd (a.xt tl s) else a.xt tl s).sub τ
    rw [qTf q,ih]
    cases a.f.both<;>rfl
   ·obtain⟨u,w,x,e1,_⟩:=g2
    have ha:a.f.has=true:=by rw [e1];rfl
    have ih:=qZh ht a b n n' hs hs' σ τ s s' g1 h1' e ra S S' Ra ha
    show zYe b.f (b.xt tl s')=(zYe a.f (a.xt tl s)).sub τ
    rw [ih,zYg q]
  | _=>cases r
 | .p2 k a b f,j',n,n',hs,hs',σ,τ,s,s',⟨g0,g1,g2⟩,h',e,⟨a',b',r,ra,rb⟩,S,S',R,hf=>by
  cases j' with
  | p2 k' c d f' =>
   obtain⟨-,h1',h2'⟩:=h'
   cases r
   replace hf:f.has=true:=hf
   have q:=qY3 ls a c n n' hs hs' σ g1 h1' e ra
   have Ra:SX σ τ a.us s s':=R.mono fun v hv=>⟨hf,.inl hv⟩
   cases k
   ·obtain⟨g3,e1⟩:=g2
    obtain⟨h3',e2⟩:=h2'
    have Rb:SX σ τ b.us s s':=R.mono fun v hv=>⟨hf,.inr hv⟩
    have q2:=qY3 ls b d n n' hs hs' σ g3 h3' e rb
    show (bif c.f.has then (bif d.f.has then Tm.n2 .pair (c.xt tl s') (d.xt tl s') else c.xt tl s') else d.xt tl s')=(bif a.f.has then (bif b.f.has then Tm.n2 .pair (a.xt tl s) (b.xt tl s) else a.xt tl s) else b.xt tl s).sub τ
    rw [qQ1 q,qQ1 q2]
    have hor:(a.f.has || b.f.has)=true:=by rw [e1] at hf;exact hf
    have iha:=fun ha=>qZh ht a c n n' hs hs' σ τ s s' g1 h1' e ra S S' Ra ha
    have ihb:=fun hb=>qZh ht b d n n' hs hs' σ τ s s' g3 h3' e rb S S' Rb hb
    cases ha:a.f.has<;>cases hb:b.f.has
    ·rw [ha,hb] at hor;cases hor
    ·exact ihb hb
    ·exact iha ha
    ·show Tm.n2 .pair _ _=_
     rw [iha ha,ihb hb];rfl
   ·obtain⟨g3,x,e1⟩:=g2
    obtain⟨h3',x',e2⟩:=h2'
    have Rb:SX σ τ b.us s s':=R.mono fun v hv=>⟨hf,.inr hv⟩
    have q2:=qY3 ls b d n n' hs hs' σ g3 h3' e rb
    have ha:a.f.has=true:=by rw [e1];exact hf
    have iha:=qZh ht a c n n' hs hs' σ τ s s' g1 h1' e ra S S' Ra ha
    show (bif d.f.has then Tm.n2 .app (c.xt tl s') (d.xt tl s') else c.xt tl s')=(bif b.f.has then Tm.n2 .app (a.xt tl s) (b.xt tl s) else a.xt tl s).sub τ
    rw [qQ1 q2,iha]
    cases hb:b.f.has
    ·rfl
    ·show Tm.n2 .app _ _=_
     rw [qZh ht b d n n' hs hs' σ τ s s' g3 h3' e rb S S' Rb hb];rfl
   ·obtain⟨g3,⟨u,e1⟩,e3⟩:=g2
    obtain⟨h3',⟨u',e2⟩,e4⟩:=h2'
    have hbh:b.f.has=true:=by rw [← qQ1 (qAg e3)];exact hf
    have hu:∀ v,b.us (v+1)→Jt.us (.p2 .exE a b f) v:=fun v hv=>⟨hf,.inr hv⟩
    have ha:a.f.has=true:=by rw [e1];rfl
    have iha:=qZh ht a c n n' hs hs' σ τ s s' g1 h1' e ra S S' Ra ha
    have eb:=zJi q
    show (bif c.f.bd.has then Tm.n2 .app (.lam (.two false c.f.qs c.f.bd.cty) (d.xt tl ((s'.bind.var (.n1 .fst (.v 0))).hyp (.n1 .snd (.v 0))))) (c.xt tl s') else Tm.n2 .app (.lam c.f.qs (d.xt tl (s'.bind.var (.v 0)).bare)) (c.xt tl s'))=(bif a.f.bd.has then Tm.n2 .app (.lam (.two false a.f.qs a.f.bd.cty) (b.xt tl ((s.bind.var (.n1 .fst (.v 0))).hyp (.n1 .snd (.v 0))))) (a.xt tl s) else Tm.n2 .app (.lam a.f.qs (b.xt tl (s.bind.var (.v 0)).bare)) (a.xt tl s)).sub τ
    rw [zC6 q,qQ1 eb,qEi eb,iha]
    have RB:=R.bind S S'
    have z:∀ {m:Nat},TK (m+1) (.v 0):=TKv (by omega)
    cases hx:a.f.bd.has
    ·have ihb:=qZh ht b d (n+1) (n'+1) _ _ (upS σ) (upS τ) _ _ g3 h3' (qH9 1 e eb) rb (by rw [qPf,hx];exact (S.bind.var (t:=.v 0) z).bare) (by rw [qPf,hx];exact (S'.bind.var (t:=.v 0) z).bare) (RB.var (t:=.v 0) (t':=.v 0) rfl hu).bare hbh
     show Tm.n2 .app (.lam _ _) _=_
     rw [ihb];rfl
    ·have ihb:=qZh ht b d (n+1) (n'+1) _ _ (upS σ) (upS τ) _ _ g3 h3' (qH9 1 e eb) rb (by rw [qPf,hx];exact (S.bind.var (t:=.n1 .fst (.v 0)) (TK1 z (by simp [Tm.cnt]))).hyp (t:=.n1 .snd (.v 0)) (TK1 z (by simp [Tm.cnt])) true) (by rw [qPf,hx];exact (S'.bind.var (t:=.n1 .fst (.v 0)) (TK1 z (by simp [Tm.cnt]))).hyp (t:=.n1 .snd (.v 0)) (TK1 z (by simp [Tm.cnt])) true) ((RB.var (t:=.n1 .fst (.v 0)) (t':=.n1 .fst (.v 0)) rfl hu).hyp (t:=.n1 .snd (.v 0)) (t':=.n1 .snd (.v 0)) rfl) hbh
     show Tm.n2 .app (.lam _ _) _=_
     rw [ihb];rfl
   ·obtain⟨g3,⟨u,e1⟩,e3⟩:=g2
    obtain⟨h3',⟨u',e2⟩,e4⟩:=h2'
    have hbh:b.f.has=true:=by rw [← qQ1 (qAg e3)];exact hf
    have hu:∀ v,b.us (v+1)→Jt.us (.p2 .exUE a b f) v:=fun v hv=>⟨hf,.inr hv⟩
    have eb:=zJi q
    have hs64:a.f.qs.size≤64:=by
     have:=(Jt.FKj g1)
     rw [e1] at this ⊢
     exact qOv (qZ1 this.shp).1
    show (bif c.f.bd.has then Tm.n2 .app (.lam c.f.bd.cty (d.xt tl ((s'.bind.var c.f.qs.ini).hyp (.v 0)))) (c.xt tl s') else d.xt tl (s'.var c.f.qs.ini).bare)=(bif a.f.bd.has then Tm.n2 .app (.lam a.f.bd.cty (b.xt tl ((s.bind.var a.f.qs.ini).hyp (.v 0)))) (a.xt tl s) else b.xt tl (s.var a.f.qs.ini).bare).sub τ
    rw [zC6 q,qQ1 eb,qEi eb]
    have z:∀ {m:Nat},TK (m+1) (.v 0):=TKv (by omega)
    cases hx:a.f.bd.has
    ·exact qZh ht b d (n+1) (n'+1) _ _ (upS σ) τ _ _ g3 h3' (qH9 1 e eb) rb (by rw [qPf,hx];exact (S.var (t:=a.f.qs.ini) (qYg _ hs64 _)).bare) (by rw [qPf,hx];exact (S'.var (t:=a.f.qs.ini) (qYg _ hs64 _)).bare) (R.var (qL0 _ _) hu).bare hbh
    ·have ha:a.f.has=true:=by rw [e1] at hx ⊢;exact hx
     have iha:=qZh ht a c n n' hs hs' σ τ s s' g1 h1' e ra S S' Ra ha
     have ihb:=qZh ht b d (n+1) (n'+1) _ _ (upS σ) (upS τ) _ _ g3 h3' (qH9 1 e eb) rb (by rw [qPf,hx];exact (S.bind.var (t:=a.f.qs.ini) (qYg _ hs64 _)).hyp (t:=.v 0) z true) (by rw [qPf,hx];exact (S'.bind.var (t:=a.f.qs.ini) (qYg _ hs64 _)).hyp (t:=.v 0) z true) (((R.bind S S').var (qL0 _ _) hu).hyp (t:=.v 0) (t':=.v 0) rfl) hbh
     show Tm.n2 .app (.lam _ _) _=_
     rw [ihb,iha];rfl
  | _=>cases r
 | .impI x a,j',n,n',hs,hs',σ,τ,s,s',⟨_,_,g1⟩,h',e,⟨x',a',r,rx,ra⟩,S,S',R,hf=>by
  cases j' with
  | impI x2 b =>
   obtain⟨-,-,h1'⟩:=h'
   cases r
   have ha:a.f.has=true:=hf
   have Ra:SX σ τ a.us s s':=R.mono fun v hv=>⟨hf,hv⟩
   have ee:(hs'++[x']).map Fm.er=(hs++[x]).map Fm.er:=by rw [List.map_append,List.map_append,e];simp only [List.map_cons,List.map_nil,rx]
   have ex:(hs++[x]).map Fm.has=hs.map Fm.has++[x.has]:=by rw [List.map_append];rfl
   have z:∀ {m:Nat},TK (m+1) (.v 0):=TKv (by omega)
   show (bif x'.has then Tm.lam x'.cty (b.xt tl (s'.bind.hyp (.v 0))) else b.xt tl s'.bare)=(bif x.has then Tm.lam x.cty (a.xt tl (s.bind.hyp (.v 0))) else a.xt tl s.bare).sub τ
   rw [qQ1 rx,qEi rx]
   cases hx:x.has
   ·exact qZh ht a b n n' _ _ σ τ _ _ g1 h1' ee ra (by rw [ex,hx];exact S.bare) (by rw [ex,hx];exact S'.bare) Ra.bare ha
   ·have ih:=qZh ht a b n n' _ _ σ (upS τ) _ _ g1 h1' ee ra (by rw [ex,hx];exact S.bind.hyp (t:=.v 0) z true) (by rw [ex,hx];exact S'.bind.hyp (t:=.v 0) z true) ((Ra.bind S S').hyp (t:=.v 0) (t':=.v 0) rfl) ha
    show Tm.lam _ _=_
    rw [ih];rfl
  | _=>cases r
 | .all u w a,j',n,n',hs,hs',σ,τ,s,s',⟨g0,_,g1⟩,h',e,⟨a',r,ra⟩,S,S',R,hf=>by
  cases j' with
  | all u' w' b =>
   obtain⟨-,-,h1'⟩:=h'
   cases r
   have ee:(upH 1 hs').map Fm.er=(upH 1 hs).map Fm.er:=by rw [qEf,qEf,e]
   cases u
   ·have ha:a.f.has=true:=hf
    have hu:∀ v,a.us (v+1)→Jt.us (.all false w a) v:=fun v hv=>⟨hf,hv⟩
    have z:∀ {m:Nat},TK (m+1) (.v 0):=TKv (by omega)
    have ih:=qZh ht a b (n+1) (n'+1) _ _ (upS σ) (upS τ) _ _ g1 h1' ee ra (by rw [qJh];exact S.bind.var (t:=.v 0) z) (by rw [qJh];exact S'.bind.var (t:=.v 0) z) ((R.bind S S').var (t:=.v 0) (t':=.v 0) rfl hu) ha
    show Tm.lam _ (b.xt tl (s'.bind.var (.v 0)))=(Tm.lam _ (a.xt tl (s.bind.var (.v 0)))).sub τ
    rw [ih];rfl
   ·have ha:a.f.has=true:=hf
    have hu:∀ v,a.us (v+1)→Jt.us (.all true w a) v:=fun v hv=>⟨hf,hv⟩
    exact qZh ht a b (n+1) (n'+1) _ _ (upS σ) τ _ _ g1 h1' ee ra (by rw [qJh];exact S.var (t:=w.ini) (qYg _ g0 _)) (by rw [qJh];exact S'.var (t:=w.ini) (qYg _ g0 _)) (R.var (qL0 _ _) hu) ha
  | _=>cases r
 | .ins u t a f,j',n,n',hs,hs',σ,τ,s,s',⟨_,g0,g1,w,x,e1,e3⟩,h',e,⟨t',a',r,rt,ra⟩,S,S',R,hf=>by
  cases j' with
  | ins u' t2 b f' =>
   obtain⟨-,-,h1',-⟩:=h'
   cases r
   replace hf:f.has=true:=hf
   have hxh:x.has=true:=by rw [← qQ1 (qW1 e3)];exact hf
   have ha:a.f.has=true:=by rw [e1];cases u<;>exact hxh
   have ih:=qZh ht a b n n' hs hs' σ τ s s' g1 h1' e ra S S' (R.mono fun v hv=>⟨hf,.inl hv⟩) ha
   cases u
   ·show Tm.n2 .app (b.xt tl s') (t'.ps s'.vs s'.dep 0)=(Tm.n2 .app (a.xt tl s) (t.ps s.vs s.dep 0)).sub τ
    rw [ih,rt rfl,R.tm S.vl g0.sc fun v hv=>⟨hf,.inr ⟨rfl,hv⟩⟩];rfl
   ·exact ih
  | _=>cases r
 | .ex u x t a,j',n,n',hs,hs',σ,τ,s,s',⟨_,g0,g1,⟨w,e1⟩,e3⟩,h',e,⟨x',t',a',r,rx,rt,ra⟩,S,S',R,hf=>by
  cases j' with
  | ex u' x2 t2 b =>
   obtain⟨-,-,h1',-⟩:=h'
   cases r
   replace hf:x.has=true:=hf
   have q:=qY3 ls a b n n' hs hs' σ g1 h1' e ra
   have ih:=fun ha=>qZh ht a b n n' hs hs' σ τ s s' g1 h1' e ra S S' (R.mono fun v hv=>⟨hf,.inl hv⟩) ha
   cases u
   ·have it:=R.tm (t:=t) S.vl g0.sc fun v hv=>⟨hf,.inr ⟨rfl,hv⟩⟩
    show (bif b.f.has then Tm.n2 .pair (t'.ps s'.vs s'.dep 0) (b.xt tl s') else t'.ps s'.vs s'.dep 0)=(bif a.f.has then Tm.n2 .pair (t.ps s.vs s.dep 0) (a.xt tl s) else t.ps s.vs s.dep 0).sub τ
    rw [qQ1 q,rt rfl,it]
    cases ha:a.f.has
    ·rfl
    ·show Tm.n2 .pair _ _=_
     rw [ih ha];rfl
   ·refine ih ?_
    rw [qQ1 e3]
    rw [e1] at hf
    exact hf
  | _=>cases r
 | .ind l x t a b f,j',n,n',hs,hs',σ,τ,s,s',⟨_,_,g0,g1,e1,⟨ea,eb⟩,g2⟩,h',e,⟨x',t',a',b',r,rx,rt,ra,rb⟩,S,S',R,hf=>by
  cases j' with
  | ind l' x2 t2 c d f' =>
   obtain⟨-,-,-,h1',-,-,h2'⟩:=h'
   cases r
   replace hf:f.has=true:=hf
   have hxh:x.has=true:=by rw [← qQ1 (qW1 e1)];exact hf
   have ha:a.f.has=true:=by rw [qQ1 ea];exact hxh
   have hbh:b.f.has=true:=by rw [qQ1 eb];exact hxh
   have iha:=qZh ht a c n n' hs hs' σ τ s s' g1 h1' e ra S S' (R.mono fun v hv=>⟨hf,.inr (.inl hv)⟩) ha
   have it:=R.tm (t:=t) S.vl g0.sc fun v hv=>⟨hf,.inl hv⟩
   have z:∀ {m:Nat},TK (m+1) (.v 0):=TKv (by omega)
   cases l
   ·have hu:∀ v,b.us (v+1)→Jt.us (.ind false x t a b f) v:=fun v hv=>⟨hf,.inr (.inr hv)⟩
    have S1:=(S.bind.var (t:=.v 0) z).bind.hyp (t:=.v 0) z true
    have S1':=(S'.bind.var (t:=.v 0) z).bind.hyp (t:=.v 0) z true
    have R1:=(((R.bind S S').var (t:=.v 0) (t':=.v 0) (W:=b.us) rfl hu).bind (S.bind.var (t:=.v 0) z) (S'.bind.var (t:=.v 0) z)).hyp (t:=.v 0) (t':=.v 0) rfl
    have ihb:=qZh ht b d (n+1) (n'+1) _ _ (upS σ) (upS (upS τ)) _ _ g2 h2' (qH9 1 e rx) rb (by rw [qPf,hxh];exact S1) (by rw [qPf,hxh];exact S1') R1 hbh
    show Tm.n3 .re x'.cty (c.xt tl s') (.lam .nat (.lam x'.cty (d.xt tl ((s'.bind.var (.v 0)).bind.hyp (.v 0))))) (t'.ps s'.vs s'.dep 0)=(Tm.n3 .re x.cty (a.xt tl s) (.lam .nat (.lam x.cty (b.xt tl ((s.bind.var (.v 0)).bind.hyp (.v 0))))) (t.ps s.vs s.dep 0)).sub τ
    rw [qEi rx,iha,ihb,rt,it];rfl
   ·have hu:∀ v,b.us (v+1+1)→Jt.us (.ind true x t a b f) v:=fun v hv=>⟨hf,.inr (.inr hv)⟩
    have A1:=S.bind.var (t:=.v 0) z
    have A1':=S'.bind.var (t:=.v 0) z
    have A2:=A1.bind.var (t:=.v 0) z
    have A2':=A1'.bind.var (t:=.v 0) z
    have S1:=A2.bind.hyp (t:=.v 0) z true
    have S1':=A2'.bind.hyp (t:=.v 0) z true
    have R0:=(((R.bind S S').var (t:=.v 0) (t':=.v 0) (W:=fun v=>b.us (v+1)) rfl hu).bind A1 A1').var (t:=.v 0) (t':=.v 0) (W:=b.us) rfl fun v hv=>hv
    have R1:=(R0.bind A2 A2').hyp (t:=.v 0) (t':=.v 0) rfl
    have ihb:=qZh ht b d (n+2) (n'+2) _ _ (upS (upS σ)) (upS (upS (upS τ))) _ _ g2 h2' (qH9 2 e (by rw [qYz,qYz,rx])) rb (by rw [qPf,qQ1 (qYz _ x 1),hxh];exact S1) (by rw [qPf,qQ1 (qYz _ x 1),hxh];exact S1') R1 hbh
    show Tm.n3 .fo x'.cty (c.xt tl s') (.lam .nat (.lam .list (.lam x'.cty (d.xt tl (((s'.bind.var (.v 0)).bind.var (.v 0)).bind.hyp (.v 0)))))) (t'.ps s'.vs s'.dep 0)=(Tm.n3 .fo x.cty (a.xt tl s) (.lam .nat (.lam .list (.lam x.cty (b.xt tl (((s.bind.var (.v 0)).bind.var (.v 0)).bind.hyp (.v 0)))))) (t.ps s.vs s.dep 0)).sub τ
    rw [qEi rx,iha,ihb,rt,it];rfl
  | _=>cases r
 | .subst x a b f,j',n,n',hs,hs',σ,τ,s,s',⟨_,_,_,g3,eb,t,u,e1,e2⟩,h',e,⟨x',a',b',r,rx,ra,rb⟩,S,S',R,hf=>by
  cases j' with
  | subst x2 c d f' =>
   obtain⟨-,-,-,h3',-⟩:=h'
   cases r
   replace hf:f.has=true:=hf
   have hbh:b.f.has=true:=by rw [qQ1 eb,← qQ1 (qW1 e2)];exact hf
   exact qZh ht b d n n' hs hs' σ τ s s' g3 h3' e rb S S' (R.mono fun v hv=>⟨hf,hv⟩) hbh
  | _=>cases r
def nvs (d:Nat):Nat→Nat→List (Tm × Nat)
 | _,0=>[]
 | i,n+1=>(.v (d-1-i),d)::nvs d (i+1) n
abbrev zs4:List PV:=[.int 0,.int 0,.nils,.nils]
abbrev s71 (c a i v:Nat) (A:List (List PV)):IS:=st [(4,.loc 0 0),(5,.loc 1 0),(11,.pv (num a)),(12,.pv (num i))] [(0,bx zs4),(1,.box [.pv (num c),.pv (num 0),.arr 2 v A.length,.pv .nils]),(2,.arr v 6 183 (pvE A))] 3 []
abbrev k71:Kp:=⟨[4,5,11,12],[0,1,2],3,[]⟩
theorem zV9 (c a:Nat) (hc:c≤mid) (ha:a≤c):∀ (r i v:Nat) (A:List (List PV)),i+r=a→A.length=i →
  ∃ v',Lp 71 0 0 (s71 c a i v A) (.exit 0) (st [(4,.loc 0 0),(5,.loc 1 0)] [(0,bx zs4),(1,.box [.pv (num c),.pv (num 0),.arr 2 v' (A.length+r),.pv .nils]),(2,.arr v' 6 183 (pvE (A++(nvs c i r).map ec)))] 3 [])
 | 0,i,v,A,h,hA=>by
  have e:ltI (.ofNat i) (.ofNat a)=false:=qZ7 (by omega)
  simp only [nvs,List.map_nil,List.append_nil,Nat.add_zero]
  exact⟨v,y1 [(13,.H)] ⟨[4,5],[0,1,2],3,[]⟩ e (qQo A)⟩
 | r+1,i,v,A,h,hA=>by
  have hm:=qQd
  have hb:=qQh
  have e:ltI (.ofNat i) (.ofNat a)=true:=qQ7 (by omega)
  have g1:=qV7 (a:=c) (by omega) (by omega)
  have g2:inB (Int.ofNat (c-1) - .ofNat i)=true∧Int.ofNat (c-1) - .ofNat i = .ofNat (c-1-i):=by
   have e:Int.ofNat (c-1) - .ofNat i = .ofNat (c-1-i):=by simp;omega
   exact⟨by rw [e];exact inN (by omega),e⟩
  have g5:=qLu (A:=A) (v:=v) (ty:=183) (m:=80) (c:=ec (.v (c-1-i),c)) (show 0<6 by decide) rfl rfl (by simp only [maxLen];omega) (by omega)
  have g6:=qZd (a:=i) (b:=1) (by omega)
  obtain⟨v',ih⟩:=zV9 c a hc ha r (i+1) (v+1) (A++[ec (.v (c-1-i),c)]) (by omega) (by simp [hA])
  dsimp only [s71] at ih
  rw [qJw,show (A++[ec (.v (c-1-i),c)]).length=A.length+1 by simp,show A.length+1+r=A.length+(r+1) by omega,List.append_assoc] at ih
  exact⟨v',n8 [(13,.G),(19,.z (c-1)),(21,.z (c-1-i)),(22,.r (Tm.v (c-1-i)).p),(27,.ok),(29,.z (i+1))] k71 e g1 g2 (a74 (c-1-i)) g5 g6 (qQ2 A (ec (.v (c-1-i),c))) ih⟩
abbrev qAm (a b:Nat):Sc:=⟨a+b,0,nvs (a+b) 0 a,[]⟩
theorem qY4 (d:Nat):∀ (n i:Nat),(nvs d i n).length=n
 | 0,_=>rfl
 | n+1,i=>by simp [nvs,qY4 d n]
theorem a71 (a b:Nat) (h:a+b≤mid):A 71 [num a,num b] (qAm a b).p:=by
 have hm:=qQd
 have hb:=qQh
 have g0:=qZd (a:=a) (b:=b) (by omega)
 cases a with
 | zero =>
  have h1:Lp 71 0 0 (st [(4,.loc 0 0),(5,.loc 1 0),(11,.pv (num 0)),(12,.pv (num 0))] [(0,bx zs4),(1,bx [num (0+b),num 0,.nils,.nils])] 2 []) (.exit 0) (st [(4,.loc 0 0),(5,.loc 1 0)] [(0,bx zs4),(1,bx [num (0+b),num 0,.nils,.nils])] 2 []) :=
   x0 [] ⟨[4,5],[0,1],2,[]⟩
  exact f2 [(9,.z (0+b)),(100003,.l ⟨[4,5,11,12],[0,1],2,[]⟩ (.exit 0) (st [(4,.loc 0 0),(5,.loc 1 0)] [(0,bx zs4),(1,bx [num (0+b),num 0,.nils,.nils])] 2 []))] g0 h1
 | succ a =>
  generalize hc:a+1+b=c at *
  obtain⟨v,h1⟩:=zV9 c (a+1) (by omega) (by omega) a 1 1 [ec (.v (c-1-0),c)] (by omega) rfl
  have em : [ec (.v (c-1-0),c)]++(nvs c 1 a).map ec=(nvs c 0 (a+1)).map ec:=rfl
  rw [em] at h1
  have h2:=LoopIs.fz (by simp) h1 2 (ver:=v) (sz:=6) (ty:=183) (ps:=(nvs c 0 (a+1)).map ec) rfl (by kernel_rfl)
  have el:(([ec (.v (c-1-0),c)]:List (List PV)).length+a)=a+1:=by simp;omega
  rw [el] at h2
  simp (decide:=true) only [fzS,fzO,qB8,qJo,qC5,bx,zs4,List.map,qGn,and_self,↓reduceIte,List.take_of_length_le (show ((nvs c 0 (a+1)).map ec).length≤a+1 by simp [qY4])] at h2
  have e:ltI (.ofNat 0) (.ofNat (a+1))=true:=qQ7 (by omega)
  have g1:=qV7 (a:=c) (by omega) (by omega)
  have g2:inB (Int.ofNat (c-1) - .ofNat 0)=true∧Int.ofNat (c-1) - .ofNat 0 = .ofNat (c-1-0):=by
   have e:Int.ofNat (c-1) - .ofNat 0 = .ofNat (c-1-0):=by simp
   exact⟨by rw [e];exact inN (by omega),e⟩
  have h3:Lp 71 0 0 (st [(4,.loc 0 0),(5,.loc 1 0),(11,.pv (num (a+1))),(12,.pv (num 0))] [(0,bx zs4),(1,bx [num c,num 0,.nils,.nils])] 2 []) (.exit 0) (st [(4,.loc 0 0),(5,.loc 1 0)] [(0,bx zs4),(1,bx [num c,num 0,.slice ((nvs c 0 (a+1)).map ec),.nils])] 3 []) :=
   n6 [(13,.G),(19,.z (c-1)),(21,.z (c-1-0)),(22,.r (Tm.v (c-1-0)).p)] k71 e g1 g2 (a74 (c-1-0)) (qQ2 [] (ec (.v (c-1-0),c))) h2
  exact f2 [(9,.z c),(100003,.l ⟨[4,5,11,12],[0,1],2,[]⟩ (.exit 0) (st [(4,.loc 0 0),(5,.loc 1 0)] [(0,bx zs4),(1,bx [num c,num 0,.slice ((nvs c 0 (a+1)).map ec),.nils])] 3 []))] g0 h3
theorem a25 (g:List Ty) (hg:g.length≤16):A 24 [qJy g []] (qAm g.length 0).p:=by
 have hm:=qQd
 have g1:=a71 (g.map Ty.c).length 0 (by simp;omega)
 rw [show qAm (g.map Ty.c).length 0=qAm g.length 0 by simp] at g1
 exact f1 [(36,.r (qAm g.length 0).p)] g1
open Go.Lg
set_option maxRecDepth 100000
theorem qTg (d:Nat):∀ (n i k:Nat),k<n→(nvs d i n)[k]? = some (.v (d-1-(i+k)),d)
 | 0,_,_,h=>absurd h (Nat.not_lt_zero _)
 | n+1,i,0,_=>rfl
 | n+1,i,k+1,h=>by
  have:=qTg d n (i+1) k (by omega)
  simp only [nvs,List.getElem?_cons_succ]
  rw [this,show i+1+k=i+(k+1) by omega]
theorem qTh (d:Nat):∀ (n i:Nat) (e:Tm × Nat),e∈nvs d i n→∃ k,e=(.v (d-1-k),d)
 | 0,_,_,h=>by cases h
 | n+1,i,e,h=>by
  rcases List.mem_cons.1 h with rfl|h
  ·exact⟨i,rfl⟩
  ·exact qTh d n (i+1) e h
theorem qF9 (a b:Nat):ScOK a [] (qAm a b):=by
 refine⟨qY4 _ _ _,rfl,fun e he => ?_,(fun h hh=>by cases hh),fun i hi=>by simp at hi⟩
 cases a with
 | zero=>cases he
 | succ a =>
  obtain⟨k,rfl⟩:=qTh _ _ _ _ he
  exact⟨Nat.le_refl _,TKv (by omega)⟩
theorem a15:A 16 [fms [],row []] (num 0):=by
 have e:(!eqI (.ofNat (([]:List Fm).map Fm.c).length) (.ofNat (([]:List Tm).map Tm.c).length))=false:=rfl
 exact f1 [(14,.H)] e
theorem a23 (g:List Ty) (hg:g.length≤16) (hgs:∀ s∈g,s.size≤64) (j:Jt) (hD:j.D [] g []) (hc:j.p.ck) (hp:j.p.cnt≤16384):A 22 [fms [],qJy g [],j.p.p] (.tuple [j.ptr [],num 0])∧j.OK [] g.length []:=by
 have hm:=qQd
 obtain⟨hk,L,g1⟩:=a67 g hg hgs j hD hc hp
 have hO:=(qH1 (ls:=[]) (fun f h=>nomatch h) j g [] hD hgs hg (fun f h=>nomatch h) hc).1
 have g2:=a68 (ls:=[]) j g.length [] (fun f h=>nomatch h) (by simp;omega) (by omega) hO
 exact⟨f2 [(14,.U [.agg [num j.f.kd,num j.f.tk,.slice j.f.te,.slice j.f.ts,.slice j.f.es,qQk L],num 0]),(24,.r (j.ptr []))] g1 g2,hO⟩
theorem a10 (g:List Ty) (hg:g.length≤16) (hgs:∀ s∈g,s.size≤64) (j:Jt) (hD:j.D [] g []) (hc:j.p.ck) (hp:j.p.cnt≤16384) (hf:j.f.has=true):∃ r:XR,A 9 [fms [],row [],qJy g [],j.p.p] r.p∧r.Gd g.length (j.xt [] (qAm g.length 0)):=by
 have hm:=qQd
 obtain⟨g1,hj⟩:=a23 g hg hgs j hD hc hp
 obtain⟨r,g4,q⟩:=a69 (ls:=[]) (tl:=[]) (fun i f h=>by simp at h) j g.length [] (qAm g.length 0) hj hf (qF9 g.length 0) (by omega) (by simp;omega) (by show g.length+0+_≤_;omega) (by show 0+_≤_;omega)
 have g5:A 23 [row [],j.ptr [],(qAm g.length 0).p] r.p:=f1 [(12,.r r.p)] g4
 exact⟨r,f5 [(17,.U [j.ptr [],num 0]),(26,.N 0),(34,.G),(40,.r (qAm g.length 0).p),(41,.r r.p)] g1 a15 hf (a25 g hg) g5,q⟩
abbrev zLi (ls hs:List Fm) (g:List Ty) (k:Nat):IS:=st [(3,.loc 0 0),(15,.pv (fms ls)),(16,.pv (num (ls.map Fm.c).length)),(17,.pv (num k))] [(0,bx [tys g,fms hs])] 1 []
abbrev zC8 (hs:List Fm) (g:List Ty):IS:=st [(3,.loc 0 0)] [(0,bx [tys g,fms hs])] 1 []
theorem qTi (hs:List Fm) (g:List Ty) {ls:List Fm} (hl:ls.length≤mid):∀ (r:List Fm) (k:Nat),ls.drop k=r→(∀ f∈r,f.cnt+1024≤mid∧f.tsz≤mid) →
  (Lp 63 0 0 (zLi ls hs g k) (.exit 0) (zC8 hs g) ∧ ∀ f∈r,f.chk=0) ∨ ∃ e,Lp 63 0 0 (zLi ls hs g k) .ret (st [(4,.pv (num (e+1)))] [] 1 [])
 | [],k,h,_ => .inl ⟨x1 [(18,.H)] ⟨[3],[0],1,[]⟩ (show ltI (.ofNat k) (.ofNat (ls.map Fm.c).length)=false from qZ7 (by simpa using qWx h)),fun f h=>by cases h⟩
 | f::r,k,h,hb=>by
  obtain⟨h1,h2,h3⟩:=qWw h
  have hm:=qQd
  have hlt:ltI (.ofNat k) (.ofNat (ls.map Fm.c).length)=true:=qQ7 (by simpa using h2)
  have hf:=hb f (by simp)
  obtain⟨e,g1,q1⟩:=zEl [] f (fun s h=>by cases h) hf.2 (by have:=hf.1;simp;omega)
  cases e with
  | succ e=>exact .inr ⟨e,x3 [(18,.G),(19,.i f.c),(22,.N (e+1))] ⟨[4],[],1,[]⟩ hlt (qQn h1 Fm.c_len) g1⟩
  | zero =>
   have q2:=(q1 rfl).1
   rcases qTi hs g hl r (k+1) h3 (fun t ht=>hb t (by simp [ht])) with ⟨ih,q⟩|⟨e,ih⟩
   ·refine .inl ⟨n5 [(18,.G),(19,.i f.c),(22,.N 0),(26,.ok)] ⟨[3,15,16,17],[0],1,[]⟩ hlt (qQn h1 Fm.c_len) g1 (inN (show k+1≤_ by omega)) ih,fun x hx => ?_⟩
    rcases List.mem_cons.1 hx with rfl|hx
    ·exact q2
    ·exact q x hx
   ·exact .inr ⟨e,n5 [(18,.G),(19,.i f.c),(22,.N 0),(26,.ok)] ⟨[3,15,16,17],[0],1,[]⟩ hlt (qQn h1 Fm.c_len) g1 (inN (show k+1≤_ by omega)) ih⟩
abbrev zLj (hs:List Fm) (g:List Ty) (k:Nat):IS:=st [(3,.loc 0 0),(38,.pv (fms hs)),(39,.pv (num (hs.map Fm.c).length)),(40,.pv (num k))] [(0,bx [tys g,fms hs])] 1 []
theorem qTj (g:List Ty) (hg:∀ s∈g,s.size≤mid) (hgl:g.length≤1024) {hs:List Fm} (hl:hs.length≤mid):∀ (r:List Fm) (k:Nat),hs.drop k=r→(∀ f∈r,f.cnt+1024≤mid∧f.tsz≤mid) →
  (Lp 63 1 0 (zLj hs g k) (.exit 2) (st [] [] 1 []) ∧ ∀ f∈r,f.chk=0) ∨ ∃ e,Lp 63 1 0 (zLj hs g k) .ret (st [(4,.pv (num (e+1)))] [] 1 [])
 | [],k,h,_ => .inl ⟨x1 [(41,.H)] ⟨[],[],1,[]⟩ (show ltI (.ofNat k) (.ofNat (hs.map Fm.c).length)=false from qZ7 (by simpa using qWx h)),fun f h=>by cases h⟩
 | f::r,k,h,hb=>by
  obtain⟨h1,h2,h3⟩:=qWw h
  have hm:=qQd
  have hlt:ltI (.ofNat k) (.ofNat (hs.map Fm.c).length)=true:=qQ7 (by simpa using h2)
  have hf:=hb f (by simp)
  obtain⟨e,g1,q1⟩:=zEl g f hg hf.2 (by have:=hf.1;omega)
  cases e with
  | succ e=>exact .inr ⟨e,x3 [(41,.G),(42,.i f.c),(47,.N (e+1))] ⟨[4],[],1,[]⟩ hlt (qQn h1 Fm.c_len) g1⟩
  | zero =>
   have q2:=(q1 rfl).1
   rcases qTj g hg hgl hl r (k+1) h3 (fun t ht=>hb t (by simp [ht])) with ⟨ih,q⟩|⟨e,ih⟩
   ·refine .inl ⟨n5 [(41,.G),(42,.i f.c),(47,.N 0),(51,.ok)] ⟨[3,38,39,40],[0],1,[]⟩ hlt (qQn h1 Fm.c_len) g1 (inN (show k+1≤_ by omega)) ih,fun x hx => ?_⟩
    rcases List.mem_cons.1 hx with rfl|hx
    ·exact q2
    ·exact q x hx
   ·exact .inr ⟨e,n5 [(41,.G),(42,.i f.c),(47,.N 0),(51,.ok)] ⟨[3,38,39,40],[0],1,[]⟩ hlt (qQn h1 Fm.c_len) g1 (inN (show k+1≤_ by omega)) ih⟩
structure SQ2 (ls:List Fm) (g:List Ty) (hs:List Fm):Prop where
 ls:∀ f∈ls,f.chk=0
 gl:g.length≤16
 gs:∀ s∈g,s.size≤64
 hl:hs.length≤16
 hs:∀ f∈hs,f.chk=0
theorem a61 (ls:List Fm) (g:List Ty) (hs:List Fm) (hl1:∀ f∈ls,f.cnt+1024≤mid∧f.tsz≤mid) (hl2:∀ f∈hs,f.cnt+1024≤mid∧f.tsz≤mid) (hg:∀ s∈g,s.size≤mid) (hgl:g.length≤1024) (h1:ls.length≤mid) (h2:hs.length≤mid):∃ e,A 63 [fms ls,qJy g hs] (num e)∧(e=0→SQ2 ls g hs):=by
 have hm:=qQd
 have hb:=qQh
 cases e0:ltI (.ofNat 32) (.ofNat (ls.map Fm.c).length)
 rotate_left
 ·exact⟨3,f1 [(14,.G)] e0,nofun⟩
 rcases qTi hs g h1 ls 0 rfl hl1 with ⟨g1,q1⟩|⟨e,g1⟩
 rotate_left
 ·exact⟨e+1,f2 [(14,.H),(100004,.l ⟨[3,15,16,17],[0],1,[]⟩ .ret (st [(4,.pv (num (e+1)))] [] 1 []))] e0 g1,nofun⟩
 have g2:=a29 g (fun s h=>by have:=hg s h;omega)
 cases e2:qSd g with
 | succ e =>
  rw [e2] at g2
  exact⟨e+1,f3 [(14,.H),(100004,.l ⟨[3,15,16,17],[0],1,[]⟩ (.exit 0) (zC8 hs g)),(29,.N (e+1))] e0 g1 g2,nofun⟩
 | zero =>
  rw [e2] at g2
  obtain⟨c1,c2⟩:=zB2 e2
  cases e3:ltI (.ofNat 16) (.ofNat (hs.map Fm.c).length)
  rotate_left
  ·exact⟨3,f4 [(14,.H),(100004,.l ⟨[3,15,16,17],[0],1,[]⟩ (.exit 0) (zC8 hs g)),(29,.N 0),(36,.G)] e0 g1 g2 e3,nofun⟩
  have c3:hs.length≤16:=by
   rw [qQr] at e3
   simp at e3
   omega
  rcases qTj g hg hgl h2 hs 0 rfl hl2 with ⟨g4,q4⟩|⟨e,g4⟩
  ·exact⟨0,f5 [(14,.H),(100004,.l ⟨[3,15,16,17],[0],1,[]⟩ (.exit 0) (zC8 hs g)),(29,.N 0),(36,.H),(100016,.l ⟨[3,38,39,40],[0],1,[]⟩ (.exit 2) (st [] [] 1 []))] e0 g1 g2 e3 g4,fun _=>⟨q1,c1,c2,c3,q4⟩⟩
  ·exact⟨e+1,f5 [(14,.H),(100004,.l ⟨[3,15,16,17],[0],1,[]⟩ (.exit 0) (zC8 hs g)),(29,.N 0),(36,.H),(100016,.l ⟨[3,38,39,40],[0],1,[]⟩ .ret (st [(4,.pv (num (e+1)))] [] 1 []))] e0 g1 g2 e3 g4,nofun⟩
theorem qNi:∀ u:List Nat,qAx 1 (pvE (u.map ic))=true∧qJq (pvE (u.map ic))=true
 | []=>⟨rfl,rfl⟩
 | n::r=>qNi r
structure Bd2 (X:Nat) (ls:List Fm) (g:List Ty) (hs:List Fm) (p:Pf):Prop where
 l1:∀ f∈ls,f.cnt+1024≤mid∧f.tsz≤mid∧f.mx≤X
 h1:∀ f∈hs,f.cnt+1024≤mid∧f.tsz≤mid∧f.mx≤X
 g1:∀ s∈g,s.size≤mid
 gl:g.length≤1024
 hl:hs.length≤1000
 ll:ls.length≤1024
 cnt:p.cnt≤big
 tsz:p.tsz≤mid
 mx:p.mx≤X
 X:X+qQf * 16384≤cmx
theorem a20 (H:MF) {X:Nat} {ls:List Fm} {g:List Ty} {hs:List Fm} {p:Pf} (hb:Bd2 X ls g hs p):∃ r:PR,A 19 [fms ls,qJy g hs,p.p] r.p ∧ ∀ f u,r = .ok f u→SQ2 ls g hs∧p.ck∧p.cnt≤16384∧FO (X+qQf * 16384) f∧(∃ j:Jt,j.p=p∧j.f=f∧j.D ls g hs ∧ ∀ v,j.us v→v∈u)∧u.length≤16384:=by
 have hm:=qQd
 have hbg:=qQh
 have b1:=hb.gl
 have b2:=hb.hl
 have b3:=hb.ll
 obtain⟨e,g1,q1⟩:=a61 ls g hs (fun f hf=>⟨(hb.l1 f hf).1,(hb.l1 f hf).2.1⟩) (fun f hf=>⟨(hb.h1 f hf).1,(hb.h1 f hf).2.1⟩) hb.g1 (by omega) (by omega) (by omega)
 cases e with
 | succ e=>exact⟨.er e,f1 [(14,.N (e+1))] g1,fun f u h=>by cases h⟩
 | zero =>
  have hq:=q1 rfl
  obtain⟨e,g2,q2⟩:=a62 p hb.cnt hb.tsz
  cases e with
  | succ e=>exact⟨.er e,f2 [(14,.N 0),(20,.N (e+1))] g1 g2,fun f u h=>by cases h⟩
  | zero =>
   obtain⟨hk,hc⟩:=q2 rfl
   have hX:=hb.X
   have c1:qQf * p.cnt≤qQf * 16384:=Nat.mul_le_mul_left _ hc
   have hpre:Pre ls g hs X p:=⟨fun f hf=>⟨(Fm.chk0 (hq.ls f hf)).1,(hb.l1 f hf).2.2,(hb.l1 f hf).2.1⟩,fun f hf=>⟨(Fm.chk0 (hq.hs f hf)).1,(hb.h1 f hf).2.2,(hb.h1 f hf).2.1⟩,hb.g1,hb.gl,hb.hl,hb.ll,by omega,hb.tsz,hb.mx,by omega⟩
   obtain⟨r,g3,q3⟩:=qJa H p ls g hs X hpre
   cases r with
   | er n=>exact⟨.er n,f3 [(14,.N 0),(20,.N 0),(33,.r (PR.er n).p)] g1 g2 g3,fun f u h=>by cases h⟩
   | ok f u =>
    obtain⟨k1,k3,k2,k4,k5⟩:=q3
    obtain⟨s1,s2⟩:=qNi u
    have g5:(Nat.blt 0 1 && qAx 1 (pvE (u.map ic)) && qJq (pvE (u.map ic)) && Nat.ble (pvE (u.map ic)).length maxLen && Nat.ble ((pvE (u.map ic)).length * 8) 140737488355328)=true:=by
     rw [s1,s2,pvE_len,List.length_map,Nat.ble_eq_true_of_le (show u.length≤maxLen by simp only [maxLen];omega),Nat.ble_eq_true_of_le (show u.length * 8≤140737488355328 by omega)]
     rfl
    have g6:A 19 [fms ls,qJy g hs,p.p] (.tuple [.agg [num f.kd,num f.tk,.slice f.te,.slice f.ts,.slice f.es,.slice (List.take (pvE (u.map ic)).length (u.map ic))],num 0]) :=
     f6 [(14,.N 0),(20,.N 0),(33,.r (PR.ok f u).p),(42,.r f.p),(45,.ok),(300010,.f 4 (u.map ic))] g1 g2 g3 (a64 f) g5 (rfl:pvE (u.map ic)=pvE (u.map ic))
    rw [pvE_len,List.take_length] at g6
    refine⟨.ok f u,g6,fun f' u' h => ?_⟩
    cases h
    exact⟨hq,hk,hc,⟨k1.1,by have:=k1.2.1;omega,k1.2.2⟩,k3,by omega⟩
open Go.Lg
set_option maxRecDepth 100000
def Fm.csz:Fm→Nat
 | .eq _ _=>1
 | .bin _ f g=>1+f.csz+g.csz
 | .q _ s f=>1+s.size+f.csz
end Go.Proofs.YtalkjpicadiimaaGreatDoor
namespace Go.Proofs.YtalkjpicadiimaaGreatDoor
open Go.Lg
set_option maxRecDepth 100000
abbrev zc1 (z:Int):List PV:=[.int z]
theorem zYh (z:Int):(zc1 z).length=1:=rfl
abbrev dk (L:List Int) (a:Nat):Ob:=bx [.slice (L.map zc1),num a]
abbrev _root_.Go.Lg.De.D (L:List Int) (b:Nat) (x:V):De:=.d 0 (dk L b) x
structure Dk (L:List Int):Prop where
 len:L.length≤500
 rng:∀ z∈L,-9223372036854775808≤z∧z≤9223372036854775807
theorem a38 (z:Int) (k:Nat) (h:1≤k) (hk:k≤mid) (hz : -9223372036854775808≤z∧z≤9223372036854775807):∃ x,x<k∧A 42 [.int z,num k] (num x):=by
 have hm:=qQd
 have h0:(!eqI (.ofNat k) 0)=true:=by
  rw [qVp];simp;omega
 have hb : -(k:Int)<z.tmod (.ofNat k)∧z.tmod (.ofNat k)<k:=by
  constructor
  ·have:=Int.lt_tmod_of_pos z (show (0:Int) < .ofNat k by simp;omega)
   simpa using this
  ·have:=Int.tmod_lt_of_pos z (show (0:Int) < .ofNat k by simp;omega)
   simpa using this
 have e0:0≤z.tmod (.ofNat k) + .ofNat k:=by
  show (0:Int)≤z.tmod (.ofNat k)+(k:Int)
  omega
 have e1:0≤(z.tmod (.ofNat k) + .ofNat k).tmod (.ofNat k)∧(z.tmod (.ofNat k) + .ofNat k).tmod (.ofNat k)<k:=by
  refine⟨Int.tmod_nonneg _ e0,?_⟩
  have:=Int.tmod_lt_of_pos (z.tmod (.ofNat k) + .ofNat k) (show (0:Int) < .ofNat k by simp;omega)
  simpa using this
 have e2:z.tmod (.ofNat k) + .ofNat k≤1152921504606846976:=by
  show z.tmod (.ofNat k)+(k:Int)≤_
  omega
 obtain⟨x,hx⟩:=Int.eq_ofNat_of_zero_le e1.1
 have g1:(!eqI (.ofNat k) 0)=true∧z.tmod (.ofNat k)=z.tmod (.ofNat k):=⟨h0,rfl⟩
 have g2:inB (z.tmod (.ofNat k) + .ofNat k)=true∧z.tmod (.ofNat k) + .ofNat k=z.tmod (.ofNat k) + .ofNat k:=⟨zAa (by omega) e2,rfl⟩
 have g3:(!eqI (.ofNat k) 0)=true∧(z.tmod (.ofNat k) + .ofNat k).tmod (.ofNat k) = .ofNat x:=⟨h0,hx⟩
 exact⟨x,by omega,f3 [(7,.y (z.tmod (.ofNat k))),(9,.y (z.tmod (.ofNat k) + .ofNat k)),(11,.z x)] g1 g2 g3⟩
theorem nx {L:List Int} (hL:Dk L) {a:Nat} (ha:a≤L.length) {n:Nat} (h1:1≤n) (h2:n≤mid):∃ x b,x<n∧b≤L.length∧O 17 [.loc 0 0,.pv (num n)] [(0,dk L a)] (.pv (num x)) [(0,dk L b)]:=by
 have hl:=hL.len
 have hm:=qQd
 have hb:=qQh
 have g0:ltI (.ofNat n) 1=false:=by rw [qQr];simp;omega
 by_cases h:a=L.length
 ·have g1:(!ltI (.ofNat a) (.ofNat (L.map zc1).length))=true:=qUd (by simp;omega)
  exact⟨0,a,by omega,ha,o2 1 [(7,.H),(18,.G)] g0 g1⟩
 ·have g1:(!ltI (.ofNat a) (.ofNat (L.map zc1).length))=false:=qOr (by simp;omega)
  obtain⟨z,hz⟩:∃ z,L[a]? = some z:=⟨_,List.getElem?_eq_getElem (by omega)⟩
  obtain⟨x,hx,g2⟩:=a38 z n h1 h2 (hL.rng z (List.mem_of_getElem? hz))
  exact⟨x,a+1,hx,by omega,o5 1 [(7,.H),(18,.H),(28,.i (zc1 z)),(34,.z (a+1)),(39,.N x)] g0 g1 (qQn hz zYh) (qZd (a:=a) (b:=1) (by omega)) g2⟩
theorem a42:A 25 [] Ty.nat.p:=f0 []
theorem a57:A 26 [] Ty.list.p:=f0 []
theorem a97:A 27 [] Ty.unit.p:=f0 []
def tsM:Nat→Nat
 | 0=>1
 | k+1=>1+2 * tsM k
theorem zG7 (k:Nat):1≤tsM k:=by cases k<;>simp [tsM]
theorem a37 {L:List Int} (hL:Dk L):∀ (k:Nat),k≤mid→∀ {a:Nat},a≤L.length→∃ (t:Ty) (b:Nat),t.size≤tsM k∧b≤L.length∧O 10 [.loc 0 0,.pv (num k)] [(0,dk L a)] (.pv t.p) [(0,dk L b)]
 | k,hk,a,ha=>by
  have hm:=qQd
  have hb:=qQh
  obtain⟨x,b,hx,hb1,g1⟩:=nx hL ha (n:=7) (by omega) (by omega)
  have t1:=zG7 k
  rcases x with _|_|_|_|_|_|_|x
  ·exact⟨.nat,b,t1,hb1,o2 1 [(6,.D L b (.pv (num 0))),(11,.Y)] g1 a42⟩
  ·exact⟨.nat,b,t1,hb1,o2 1 [(6,.D L b (.pv (num 1))),(11,.Y)] g1 a42⟩
  ·exact⟨.nat,b,t1,hb1,o2 1 [(6,.D L b (.pv (num 2))),(11,.Y)] g1 a42⟩
  ·exact⟨.list,b,t1,hb1,o2 1 [(6,.D L b (.pv (num 3))),(14,.r Ty.list.p)] g1 a57⟩
  ·exact⟨.unit,b,t1,hb1,o2 1 [(6,.D L b (.pv (num 4))),(17,.r Ty.unit.p)] g1 a97⟩
  ·cases k with
   | zero=>exact⟨.nat,b,t1,hb1,o2 1 [(6,.D L b (.pv (num 5))),(44,.Y)] g1 a42⟩
   | succ k =>
    have gs:=qV7 (a:=k+1) (by omega) (by omega)
    obtain⟨t,c,z1,hc,g2⟩:=a37 hL k (by omega) hb1
    obtain⟨u,d,z2,hd,g3⟩:=a37 hL k (by omega) hc
    exact⟨.two false t u,d,by simp only [Ty.size,tsM];omega,hd,o6 1 [(6,.D L b (.pv (num 5))),(24,.z k),(25,.D L c (.pv t.p)),(28,.z k),(29,.D L d (.pv u.p)),(30,.r (Ty.two false t u).p)] g1 gs g2 gs g3 (a98 t u)⟩
  ·cases k with
   | zero=>exact⟨.nat,b,t1,hb1,o2 1 [(6,.D L b (.pv (num 6))),(44,.Y)] g1 a42⟩
   | succ k =>
    have gs:=qV7 (a:=k+1) (by omega) (by omega)
    obtain⟨t,c,z1,hc,g2⟩:=a37 hL k (by omega) hb1
    obtain⟨u,d,z2,hd,g3⟩:=a37 hL k (by omega) hc
    exact⟨.two true t u,d,by simp only [Ty.size,tsM];omega,hd,o6 1 [(6,.D L b (.pv (num 6))),(37,.z k),(38,.D L c (.pv t.p)),(41,.z k),(42,.D L d (.pv u.p)),(43,.r (Ty.two true t u).p)] g1 gs g2 gs g3 (a99 t u)⟩
  ·omega
theorem a22 {n:Nat} (h:n<4):A 21 [num n] (qJt n).p:=f1 [(7,.U [(qJt n).p,num 0])] (a66 h)
theorem qGa (f a b:Tm):A 97 [f.p,row [a,b]] (Tm.n2 .app (.n2 .app f a) b).p:=by
 have h:∀ x y:Tm,A 95 [num 3,row [x,y]] (Tm.n2 .app x y).p:=fun x y=>qYx 3 x y
 exact f2 [(16,.r (Tm.n2 .app f a).p),(16,.r (Tm.n2 .app (.n2 .app f a) b).p)] (h f a) (h (.n2 .app f a) b)
theorem qWp {α:Type} {c:α→List PV} {n:Nat} (hn:∀ t,(c t).length=n) (h1:∀ t,qJq [pvL (c t)]=true):∀ g:List α,qAx n (pvE (g.map c))=true∧qJq (pvE (g.map c))=true
 | []=>⟨rfl,rfl⟩
 | t::r=>by
  obtain⟨a,b⟩:=qWp hn h1 r
  have e:pvE ((t::r).map c)=pvL (c t)::pvE (r.map c):=rfl
  rw [e]
  constructor
  ·unfold qAx
   rw [qLb (show (pvL (c t)).length=n by simp [pvL,hn]),cond_true]
   exact a
  ·have h2:=h1 t
   unfold qJq at h2 ⊢
   cases h3:zJt (pvL (c t)) with
   | false=>rw [h3] at h2;cases h2
   | true=>rw [cond_true];exact b
theorem zG8 {α:Type} {c:α→List PV} {n m:Nat} (hn:∀ t,(c t).length=n) (h1:∀ t,qJq [pvL (c t)]=true) (h0:0<n) (g:List α) (h:g.length * m≤140737488355328) (hg:g.length≤maxLen) :
  (Nat.blt 0 n && qAx n (pvE (g.map c)) && qJq (pvE (g.map c)) && Nat.ble (pvE (g.map c)).length maxLen && Nat.ble ((pvE (g.map c)).length * m) 140737488355328)=true:=by
 obtain⟨a,b⟩:=qWp hn h1 g
 have h3:Nat.blt 0 n=true:=by rw [qJ8];simpa using h0
 rw [h3,a,b,pvE_len,List.length_map,Nat.ble_eq_true_of_le hg,Nat.ble_eq_true_of_le h]
 rfl
theorem qNj {A B:List (List PV)} : List.take ((pvE A).length+(pvE B).length) (A++B)=A++B:=List.take_of_length_le (by simp [pvE_len])
theorem qGb (A B:List (List PV)):List.take (pvE A).length (pvE A)++pvE B=pvE (A++B):=by
 rw [List.take_length]
 simp [pvE]
theorem a41 (g l:List Ty) (h:g.length+l.length≤mid):A 93 [tys g,tys l] (tys (g++l)):=by
 have hm:=qQd
 have g1:=zG8 (c:=Ty.c) (n:=2) (m:=32) Ty.c_len (fun _=>rfl) (by decide) g (by omega) (by simp only [maxLen];omega)
 obtain⟨s1,s2⟩:=qWp (c:=Ty.c) (n:=2) Ty.c_len (fun _=>rfl) l
 have g2:(Nat.beq 1 1 && Nat.ble (pvE (g.map Ty.c)).length (pvE (g.map Ty.c)).length && Nat.beq 34 34 && Nat.beq 2 2 && Nat.blt 0 2 && qAx 2 (pvE (l.map Ty.c)) && qJq (pvE (l.map Ty.c)) && Nat.ble ((pvE (g.map Ty.c)).length+(pvE (l.map Ty.c)).length) maxLen && Nat.ble (((pvE (g.map Ty.c)).length+(pvE (l.map Ty.c)).length) * 32) 140737488355328)=true :=
  qOt rfl (by decide) s1 s2 (by rw [pvE_len,pvE_len];simp only [List.length_map,maxLen];omega) (by rw [pvE_len,pvE_len];simp only [List.length_map];omega)
 have g3:A 93 [tys g,tys l] (.slice (List.take ((pvE (g.map Ty.c)).length+(pvE (l.map Ty.c)).length) (g.map Ty.c++l.map Ty.c))) :=
  f3 [(6,.ok),(8,.ok),(300001,.f 0 (g.map Ty.c++l.map Ty.c))] g1 g2 (qGb (g.map Ty.c) (l.map Ty.c))
 rw [qNj,← List.map_append] at g3
 exact g3
abbrev zG9:Kp:=⟨[0,3,5,8,9],[0,1],2,[]⟩
theorem zHa {g:List Ty} {k:Nat} (hk:k<g.length) (hg:g.length≤mid):∃ s,(inB (Int.ofNat (g.map Ty.c).length-1)=true∧Int.ofNat (g.map Ty.c).length-1 = .ofNat ((g.map Ty.c).length-1))∧(inB (Int.ofNat ((g.map Ty.c).length-1) - .ofNat k)=true∧Int.ofNat ((g.map Ty.c).length-1) - .ofNat k = .ofNat (g.length-1-k))∧(qYl (g.map Ty.c) (g.length-1-k)=some (Ty.c s)∧qAw 2 (g.map Ty.c)=true)∧s∈g:=by
 have hm:=qQd
 have hb:=qQh
 obtain⟨s,hs⟩:∃ s,g[g.length-1-k]? = some s:=⟨_,List.getElem?_eq_getElem (by omega)⟩
 refine⟨s,qV7 (a:=(g.map Ty.c).length) (by simp;omega) (by simp;omega),?_,qQn hs Ty.c_len,List.mem_of_getElem? hs⟩
 have e:Int.ofNat ((g.map Ty.c).length-1) - .ofNat k = .ofNat (g.length-1-k):=by simp;omega
 exact⟨by rw [e];exact inN (by omega),e⟩
theorem qL1 (t:Ty) {g:List Ty} (hg:g.length≤mid):∀ (r k v:Nat) (A:List (List PV)),k+r=g.length→A.length≤k →
  ∃ (v':Nat) (l:List Nat),(∀ x∈l,x<g.length)∧l.length≤r∧Lp 94 0 0 (st [(0,.pv (tys g)),(3,.loc 0 0),(5,.arr 1 v A.length),(8,.pv (num (g.map Ty.c).length)),(9,.pv (num k))] [(0,bx t.c),(1,.arr v 1 3 (pvE A))] 2 []) (.exit 0) (st [(5,.arr 1 v' (A.length+l.length))] [(1,.arr v' 1 3 (pvE (A++l.map ic)))] 2 [])
 | 0,k,v,A,h,hA=>by
  have e:ltI (.ofNat k) (.ofNat (g.map Ty.c).length)=false:=qZ7 (by simp;omega)
  refine⟨v,[],by simp,Nat.le_refl _,?_⟩
  simp only [List.map_nil,List.append_nil,List.length_nil,Nat.add_zero]
  exact y1 [(10,.H)] ⟨[5],[1],2,[]⟩ e (qQo A)
 | r+1,k,v,A,h,hA=>by
  have hm:=qQd
  have hb:=qQh
  have e:ltI (.ofNat k) (.ofNat (g.map Ty.c).length)=true:=qQ7 (by simp;omega)
  obtain⟨s,g1,g2,g3,_⟩:=zHa (g:=g) (k:=k) (by omega) hg
  have g4:=a80 s t
  have g6:=qZd (a:=k) (b:=1) (by omega)
  cases hs:s.same t<;>rw [hs] at g4
  ·obtain⟨v',l,q1,q2,ih⟩:=qL1 t hg r (k+1) v A (by omega) (by omega)
   exact⟨v',l,q1,by omega,n8 [(10,.G),(15,.z ((g.map Ty.c).length-1)),(17,.z (g.length-1-k)),(18,.i s.c),(21,.F),(26,.z (k+1))] zG9 e g1 g2 g3 g4 g6 (qQo A) ih⟩
  ·have g5:=qLu (A:=A) (v:=v) (ty:=3) (m:=8) (c:=ic k) (show 0<1 by decide) rfl rfl (by simp only [maxLen];omega) (by omega)
   obtain⟨v',l,q1,q2,ih⟩:=qL1 t hg r (k+1) (v+1) (A++[ic k]) (by omega) (by simp;omega)
   rw [qJw,show (A++[ic k]).length=A.length+1 by simp,show A.length+1+l.length=A.length+(k::l).length by simp;omega,List.append_assoc] at ih
   exact⟨v',k::l,fun x hx=>by
    rcases List.mem_cons.1 hx with rfl|hx
    ·omega
    ·exact q1 x hx,by simp;omega,n9 [(10,.G),(15,.z ((g.map Ty.c).length-1)),(17,.z (g.length-1-k)),(18,.i s.c),(21,.T),(25,.ok),(26,.z (k+1))] zG9 e g1 g2 g3 g4 g5 g6 (qQ2 A (ic k)) ih⟩
theorem qTk (t:Ty) {g:List Ty} (hg:g.length≤mid):∀ (r k:Nat),k+r=g.length →
  Lp 94 0 0 (st [(0,.pv (tys g)),(3,.loc 0 0),(5,.pv .nils),(8,.pv (num (g.map Ty.c).length)),(9,.pv (num k))] [(0,bx t.c)] 1 []) (.exit 0) (st [(5,.pv .nils)] [] 2 []) ∨
  ∃ l:List Nat,(∀ x∈l,x<g.length)∧1≤l.length∧l.length≤r∧Lp 94 0 0 (st [(0,.pv (tys g)),(3,.loc 0 0),(5,.pv .nils),(8,.pv (num (g.map Ty.c).length)),(9,.pv (num k))] [(0,bx t.c)] 1 []) (.exit 0) (st [(5,.pv (qQk l))] [] 2 [])
 | 0,k,h=>by
  have e:ltI (.ofNat k) (.ofNat (g.map Ty.c).length)=false:=qZ7 (by simp;omega)
  exact .inl (x1 [(10,.H)] ⟨[5],[],2,[]⟩ e)
 | r+1,k,h=>by
  have hm:=qQd
  have hb:=qQh
  have e:ltI (.ofNat k) (.ofNat (g.map Ty.c).length)=true:=qQ7 (by simp;omega)
  obtain⟨s,g1,g2,g3,_⟩:=zHa (g:=g) (k:=k) (by omega) hg
  have g4:=a80 s t
  have g6:=qZd (a:=k) (b:=1) (by omega)
  cases hs:s.same t<;>rw [hs] at g4
  ·rcases qTk t hg r (k+1) (by omega) with ih|⟨l,q1,q2,q3,ih⟩
   ·exact .inl (n7 [(10,.G),(15,.z ((g.map Ty.c).length-1)),(17,.z (g.length-1-k)),(18,.i s.c),(21,.F),(26,.z (k+1))] ⟨[0,3,5,8,9],[0],1,[]⟩ e g1 g2 g3 g4 g6 ih)
   ·exact .inr ⟨l,q1,q2,by omega,n7 [(10,.G),(15,.z ((g.map Ty.c).length-1)),(17,.z (g.length-1-k)),(18,.i s.c),(21,.F),(26,.z (k+1))] ⟨[0,3,5,8,9],[0],1,[]⟩ e g1 g2 g3 g4 g6 ih⟩
  ·right
   by_cases hk0:k=0∨1≤k
   ·obtain⟨v,l,q1,q2,ih⟩:=qL1 t hg r (k+1) 1 [ic k] (by omega) (by simp)
    have h2:=LoopIs.fz (by simp) ih 1 (ver:=v) (sz:=1) (ty:=3) (ps:=(k::l).map ic) rfl (by kernel_rfl)
    simp (decide:=true) only [fzS,fzO,qB8,qJo,qC5,bx,List.map,qGn,and_self,↓reduceIte,List.take_of_length_le (show (ic k::l.map ic).length≤[ic k].length+l.length by simp;omega)] at h2
    refine⟨k::l,fun x hx => ?_,by simp,by simp;omega,n8 [(10,.G),(15,.z ((g.map Ty.c).length-1)),(17,.z (g.length-1-k)),(18,.i s.c),(21,.T),(26,.z (k+1))] zG9 e g1 g2 g3 g4 g6 (qQ2 [] (ic k)) h2⟩
    rcases List.mem_cons.1 hx with rfl|hx
    ·omega
    ·exact q1 x hx
   ·omega
theorem a77 (g:List Ty) (t:Ty) (hg:g.length≤mid):∃ l:List Nat,(∀ x∈l,x<g.length)∧l.length≤g.length∧A 94 [tys g,t.p] (qQk l):=by
 rcases qTk t hg g.length 0 (by omega) with h|⟨l,q1,q2,q3,h⟩
 ·exact⟨[],by simp,by simp,f1 [(100003,.l ⟨[0,3,5,8,9],[0],1,[]⟩ (.exit 0) (st [(5,.pv .nils)] [] 2 []))] h⟩
 ·exact⟨l,q1,q3,f1 [(100003,.l ⟨[0,3,5,8,9],[0],1,[]⟩ (.exit 0) (st [(5,.pv (qQk l))] [] 2 []))] h⟩
theorem a46 (g:List Ty) (hs:List Fm) (f:Fm) (h:hs.length≤1000000):A 46 [qJy g hs,f.p] (qJy g (hs++[f])):=by
 have hm:=qQd
 have g1:=zG8 (c:=Fm.c) (n:=5) (m:=88) Fm.c_len (fun _=>rfl) (by decide) hs (by omega) (by simp only [maxLen];omega)
 have g2:(Nat.beq 1 1 && Nat.ble (pvE (hs.map Fm.c)).length (pvE (hs.map Fm.c)).length && Nat.beq 40 40 && Nat.beq 5 5 && Nat.blt 0 5 && qAx 5 [pvL f.c] && qJq [pvL f.c] && Nat.ble ((pvE (hs.map Fm.c)).length+[pvL f.c].length) maxLen && Nat.ble (((pvE (hs.map Fm.c)).length+[pvL f.c].length) * 88) 140737488355328)=true :=
  qOt rfl (by decide) rfl rfl (by rw [pvE_len];simp only [List.length_map,maxLen,List.length_singleton];omega) (by rw [pvE_len];simp only [List.length_map,List.length_singleton];omega)
 have g3:A 46 [qJy g hs,f.p] (.agg [tys g,.slice (List.take ((pvE (hs.map Fm.c)).length+[pvL f.c].length) (hs.map Fm.c++[f.c]))]) :=
  f3 [(9,.ok),(12,.ok),(300001,.f 3 (hs.map Fm.c++[f.c]))] g1 g2 (qGb (hs.map Fm.c) [f.c])
 rw [List.take_of_length_le (by rw [pvE_len];simp)] at g3
 rw [show qJy g (hs++[f]) = .agg [tys g,.slice (hs.map Fm.c++[f.c])] by simp [qJy,fms]]
 exact g3
theorem a50 (t:Tm) (h:t.cnt≤1000000) (h':t.mx≤mid * mid):A 53 [t.p] (t.sh 0 1).p:=by
 have hm:=qQd
 have g1:=a53 (.eq t t) 0 1 (by omega) (by omega) (by simp only [Fm.mx];omega) (by simp only [Fm.cnt];omega)
 exact f2 [(5,.r (Fm.eq t t).p),(6,.r ((Fm.eq t t).sh 0 1).p)] (a43 t t) g1
end Go.Proofs.YtalkjpicadiimaaGreatDoor
