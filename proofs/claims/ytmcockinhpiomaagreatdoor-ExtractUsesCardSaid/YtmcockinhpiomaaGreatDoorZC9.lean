/- Contracts of functions; no conditions. -/
import Derived.Test.YtmcockinhpiomaaGreatDoorZC8
import Derived.Maps.RangeRun
import Derived.Test.YtmcockinhpiomaaGreatDoorZB3
set_option linter.all false
set_option maxHeartbeats 4000000
namespace Go.Proofs.YtmcockinhpiomaaGreatDoor
open Go.Lg
set_option maxRecDepth 100000
theorem zFk {L:List Int} (hL:Dk L):H19 L 0:=by
 intro Z ls g hs a hS hZ ha
 have hm:=qQc
 have hbg:=qQh
 have e20:M20=1048576:=rfl
 have eW:=qCl
 have hz1:=hS.z
 have hgl:=hS.gl
 have hhl:=hS.hl
 have e1:cp 0=300:=rfl
 have e2:cm 0=M20:=rfl
 obtain⟨w,c,hw,hc,gw⟩:=nx hL ha (n:=4) (by omega) (by omega)
 obtain⟨x,d,q,hd,gx⟩:=tm1 hL (t:=.nat) (g:=g) (by decide) hS.gs (by omega) hc
 have cx:=q.cnt
 have mx:=q.mx
 have sx:=q.tsz
 rcases w with _|_|w
 ·cases hs with
  | nil=>exact⟨.refl x,d,⟨by simp only [Pf.cnt];omega,by simp only [Pf.tsz];omega,by simp only [Pf.mx];omega⟩,hd,o4 1 [(36,.Y),(388,.D L c (.pv (num 0))),(415,.D L d (.pv x.p)),(416,.r (Pf.refl x).p)] a42 gw gx (a21 x)⟩
  | cons f r =>
   have hr:=hS.hl
   obtain⟨i,e,hi,he,gi⟩:=nx hL hc (n:=((f::r).map Fm.c).length) (by simp) (by simp at hr ⊢;omega)
   exact⟨.leaf false i,e,⟨by simp only [Pf.cnt];omega,Nat.zero_le _,Nat.zero_le _⟩,he,o4 1 [(36,.Y),(388,.D L c (.pv (num 0))),(399,.D L e (.pv (num i))),(400,.r (Pf.leaf false i).p)] a42 gw gi (a56 i)⟩
 ·cases ls with
  | nil=>exact⟨.refl x,d,⟨by simp only [Pf.cnt];omega,by simp only [Pf.tsz];omega,by simp only [Pf.mx];omega⟩,hd,o4 1 [(36,.Y),(388,.D L c (.pv (num 1))),(415,.D L d (.pv x.p)),(416,.r (Pf.refl x).p)] a42 gw gx (a21 x)⟩
  | cons f r =>
   have hr:=hS.ll
   obtain⟨i,e,hi,he,gi⟩:=nx hL hc (n:=((f::r).map Fm.c).length) (by simp) (by simp at hr ⊢;omega)
   exact⟨.leaf true i,e,⟨by simp only [Pf.cnt];omega,Nat.zero_le _,Nat.zero_le _⟩,he,o3 1 [(36,.Y),(388,.D L c (.pv (num 1))),(409,.D L e (.pv (num i)))] a42 gw gi⟩
 ·exact⟨.refl x,d,⟨by simp only [Pf.cnt];omega,by simp only [Pf.tsz];omega,by simp only [Pf.mx];omega⟩,hd,o4 1 [(36,.Y),(388,.D L c (.pv (num (w+2)))),(415,.D L d (.pv x.p)),(416,.r (Pf.refl x).p)] a42 gw gx (a21 x)⟩
theorem zFl {L:List Int} (hL:Dk L) {k:Nat} (hk:H19 L k) (hkl:k≤9) {Z:Nat} {ls:List Fm} {g:List Ty} {hs:List Fm} {a:Nat} (hS:S19 Z ls g hs) (hZ:Z+cm (k+1)≤281474976710656) (ha:a≤L.length) (hg:¬ g.length<10):∃ (p:Pf) (b:Nat),PG (cp (k+1)) (Z+cm (k+1)) p∧b≤L.length∧M19 L ls g hs (k+1) a p b:=by
 have hm:=qQc
 have hbg:=qQh
 have e20:M20=1048576:=rfl
 have eW:=qCl
 have hz1:=hS.z
 have hgl:=hS.gl
 have hhl:=hS.hl
 have e1:cp (k+1)=2 * cp k+10000:=rfl
 have e2:cm (k+1)=2 * cm k+W37+4 * M20:=rfl
 have e3:=qVk k
 have gs:=qVm (a:=k+1) (by omega) (by omega)
 have b1:ltI (.ofNat (g.map Ty.c).length) (.ofNat 10)=false:=qZv (by simp;omega)
 obtain⟨w,c,hw,hc,gw⟩:=nx hL ha (n:=4) (by omega) (by omega)
 obtain⟨x,d,q,hd,gx⟩:=tm1 hL (t:=.nat) (g:=g) (by decide) hS.gs (by omega) hc
 have cx:=q.cnt
 have mx:=q.mx
 have sx:=q.tsz
 rcases w with _|_|w
 ·cases hs with
  | nil=>exact⟨.refl x,d,⟨by simp only [Pf.cnt];omega,by simp only [Pf.tsz];omega,by simp only [Pf.mx];omega⟩,hd,o5 1 [(36,.Y),(43,.H),(388,.D L c (.pv (num 0))),(415,.D L d (.pv x.p)),(416,.r (Pf.refl x).p)] a42 b1 gw gx (a21 x)⟩
  | cons f r =>
   have hr:=hS.hl
   obtain⟨i,e,hi,he,gi⟩:=nx hL hc (n:=((f::r).map Fm.c).length) (by simp) (by simp at hr ⊢;omega)
   exact⟨.leaf false i,e,⟨by simp only [Pf.cnt];omega,Nat.zero_le _,Nat.zero_le _⟩,he,o5 1 [(36,.Y),(43,.H),(388,.D L c (.pv (num 0))),(399,.D L e (.pv (num i))),(400,.r (Pf.leaf false i).p)] a42 b1 gw gi (a56 i)⟩
 ·cases ls with
  | nil=>exact⟨.refl x,d,⟨by simp only [Pf.cnt];omega,by simp only [Pf.tsz];omega,by simp only [Pf.mx];omega⟩,hd,o5 1 [(36,.Y),(43,.H),(388,.D L c (.pv (num 1))),(415,.D L d (.pv x.p)),(416,.r (Pf.refl x).p)] a42 b1 gw gx (a21 x)⟩
  | cons f r =>
   have hr:=hS.ll
   obtain⟨i,e,hi,he,gi⟩:=nx hL hc (n:=((f::r).map Fm.c).length) (by simp) (by simp at hr ⊢;omega)
   exact⟨.leaf true i,e,⟨by simp only [Pf.cnt];omega,Nat.zero_le _,Nat.zero_le _⟩,he,o4 1 [(36,.Y),(43,.H),(388,.D L c (.pv (num 1))),(409,.D L e (.pv (num i)))] a42 b1 gw gi⟩
 ·exact⟨.refl x,d,⟨by simp only [Pf.cnt];omega,by simp only [Pf.tsz];omega,by simp only [Pf.mx];omega⟩,hd,o5 1 [(36,.Y),(43,.H),(388,.D L c (.pv (num (w+2)))),(415,.D L d (.pv x.p)),(416,.r (Pf.refl x).p)] a42 b1 gw gx (a21 x)⟩
theorem zFm {L:List Int} (hL:Dk L) {k:Nat} (hk:H19 L k) (hkl:k≤9) {Z:Nat} {ls:List Fm} {g:List Ty} {hs:List Fm} {a:Nat} (hS:S19 Z ls g hs) (hZ:Z+cm (k+1)≤281474976710656) (ha:a≤L.length) (hg:g.length<10) (hh:¬ hs.length<10):∃ (p:Pf) (b:Nat),PG (cp (k+1)) (Z+cm (k+1)) p∧b≤L.length∧M19 L ls g hs (k+1) a p b:=by
 have hm:=qQc
 have hbg:=qQh
 have e20:M20=1048576:=rfl
 have eW:=qCl
 have hz1:=hS.z
 have hgl:=hS.gl
 have hhl:=hS.hl
 have e1:cp (k+1)=2 * cp k+10000:=rfl
 have e2:cm (k+1)=2 * cm k+W37+4 * M20:=rfl
 have e3:=qVk k
 have gs:=qVm (a:=k+1) (by omega) (by omega)
 have b1:ltI (.ofNat (g.map Ty.c).length) (.ofNat 10)=true:=qQy (by simpa using hg)
 have b2:ltI (.ofNat (hs.map Fm.c).length) (.ofNat 10)=false:=qZv (by simp;omega)
 obtain⟨w,c,hw,hc,gw⟩:=nx hL ha (n:=4) (by omega) (by omega)
 obtain⟨x,d,q,hd,gx⟩:=tm1 hL (t:=.nat) (g:=g) (by decide) hS.gs (by omega) hc
 have cx:=q.cnt
 have mx:=q.mx
 have sx:=q.tsz
 rcases w with _|_|w
 ·cases hs with
  | nil=>exact⟨.refl x,d,⟨by simp only [Pf.cnt];omega,by simp only [Pf.tsz];omega,by simp only [Pf.mx];omega⟩,hd,o6 1 [(36,.Y),(43,.G),(49,.H),(388,.D L c (.pv (num 0))),(415,.D L d (.pv x.p)),(416,.r (Pf.refl x).p)] a42 b1 b2 gw gx (a21 x)⟩
  | cons f r =>
   have hr:=hS.hl
   obtain⟨i,e,hi,he,gi⟩:=nx hL hc (n:=((f::r).map Fm.c).length) (by simp) (by simp at hr ⊢;omega)
   exact⟨.leaf false i,e,⟨by simp only [Pf.cnt];omega,Nat.zero_le _,Nat.zero_le _⟩,he,o6 1 [(36,.Y),(43,.G),(49,.H),(388,.D L c (.pv (num 0))),(399,.D L e (.pv (num i))),(400,.r (Pf.leaf false i).p)] a42 b1 b2 gw gi (a56 i)⟩
 ·cases ls with
  | nil=>exact⟨.refl x,d,⟨by simp only [Pf.cnt];omega,by simp only [Pf.tsz];omega,by simp only [Pf.mx];omega⟩,hd,o6 1 [(36,.Y),(43,.G),(49,.H),(388,.D L c (.pv (num 1))),(415,.D L d (.pv x.p)),(416,.r (Pf.refl x).p)] a42 b1 b2 gw gx (a21 x)⟩
  | cons f r =>
   have hr:=hS.ll
   obtain⟨i,e,hi,he,gi⟩:=nx hL hc (n:=((f::r).map Fm.c).length) (by simp) (by simp at hr ⊢;omega)
   exact⟨.leaf true i,e,⟨by simp only [Pf.cnt];omega,Nat.zero_le _,Nat.zero_le _⟩,he,o5 1 [(36,.Y),(43,.G),(49,.H),(388,.D L c (.pv (num 1))),(409,.D L e (.pv (num i)))] a42 b1 b2 gw gi⟩
 ·exact⟨.refl x,d,⟨by simp only [Pf.cnt];omega,by simp only [Pf.tsz];omega,by simp only [Pf.mx];omega⟩,hd,o6 1 [(36,.Y),(43,.G),(49,.H),(388,.D L c (.pv (num (w+2)))),(415,.D L d (.pv x.p)),(416,.r (Pf.refl x).p)] a42 b1 b2 gw gx (a21 x)⟩
theorem zFn {L:List Int} (hL:Dk L) {k:Nat} (hk:H19 L k) (hkl:k≤9) {Z:Nat} {ls:List Fm} {g:List Ty} {hs:List Fm} {a:Nat} (hS:S19 Z ls g hs) (hZ:Z+cm (k+1)≤281474976710656) (ha:a≤L.length) (hg:g.length<10) (hh:hs.length<10) {b:Nat} (hb:b≤L.length) (gv:O 17 [.loc 0 0,.pv (num 17)] [(0,dk L a)] (.pv (num 0)) [(0,dk L b)]):∃ (p:Pf) (b:Nat),PG (cp (k+1)) (Z+cm (k+1)) p∧b≤L.length∧M19 L ls g hs (k+1) a p b:=by
 have hm:=qQc
 have hbg:=qQh
 have e20:M20=1048576:=rfl
 have eW:=qCl
 have hz1:=hS.z
 have hgl:=hS.gl
 have hhl:=hS.hl
 have e1:cp (k+1)=2 * cp k+10000:=rfl
 have e2:cm (k+1)=2 * cm k+W37+4 * M20:=rfl
 have e3:=qVk k
 have gs:=qVm (a:=k+1) (by omega) (by omega)
 have b1:ltI (.ofNat (g.map Ty.c).length) (.ofNat 10)=true:=qQy (by simpa using hg)
 have b2:ltI (.ofNat (hs.map Fm.c).length) (.ofNat 10)=true:=qQy (by simpa using hh)
 obtain⟨p,c,q1,hc,g1⟩:=hk Z ls g hs b hS (by omega) hb
 obtain⟨r,d,q2,hd,g2⟩:=hk Z ls g hs c hS (by omega) hc
 have:=q1.cnt;have:=q1.tsz;have:=q1.mx
 have:=q2.cnt;have:=q2.tsz;have:=q2.mx
 exact⟨.p2 .andI p r,d,⟨by simp only [Pf.cnt,Fm.cnt,qQt,qQu,Tm.cnt];omega,by simp only [Pf.tsz,Fm.tsz,qQv,qQ7,Tm.tsz,Ty.size];omega,by simp only [Pf.mx,Fm.mx,Tm.mx];omega⟩,hd,o9 1 [(36,.Y),(43,.G),(49,.G),(52,.D L b (.pv (num 0))),(59,.z k),(60,.D L c (.pv p.p)),(65,.z k),(66,.D L d (.pv r.p)),(68,.r (Pf.p2 .andI p r).p)] a42 b1 b2 gv gs g1 gs g2 (qCk 3 p r)⟩
theorem zFo {L:List Int} (hL:Dk L) {k:Nat} (hk:H19 L k) (hkl:k≤9) {Z:Nat} {ls:List Fm} {g:List Ty} {hs:List Fm} {a:Nat} (hS:S19 Z ls g hs) (hZ:Z+cm (k+1)≤281474976710656) (ha:a≤L.length) (hg:g.length<10) (hh:hs.length<10) {b:Nat} (hb:b≤L.length) (gv:O 17 [.loc 0 0,.pv (num 17)] [(0,dk L a)] (.pv (num 1)) [(0,dk L b)]):∃ (p:Pf) (b:Nat),PG (cp (k+1)) (Z+cm (k+1)) p∧b≤L.length∧M19 L ls g hs (k+1) a p b:=by
 have hm:=qQc
 have hbg:=qQh
 have e20:M20=1048576:=rfl
 have eW:=qCl
 have hz1:=hS.z
 have hgl:=hS.gl
 have hhl:=hS.hl
 have e1:cp (k+1)=2 * cp k+10000:=rfl
 have e2:cm (k+1)=2 * cm k+W37+4 * M20:=rfl
 have e3:=qVk k
 have gs:=qVm (a:=k+1) (by omega) (by omega)
 have b1:ltI (.ofNat (g.map Ty.c).length) (.ofNat 10)=true:=qQy (by simpa using hg)
 have b2:ltI (.ofNat (hs.map Fm.c).length) (.ofNat 10)=true:=qQy (by simpa using hh)
 obtain⟨v,c0,hv,hc0,gw⟩:=nx hL hb (n:=2) (by omega) (by omega)
 obtain⟨p,c,q1,hc,g1⟩:=hk Z ls g hs c0 hS (by omega) hc0
 obtain⟨r,d,q2,hd,g2⟩:=hk Z ls g hs c hS (by omega) hc
 have:=q1.cnt;have:=q1.tsz;have:=q1.mx
 have:=q2.cnt;have:=q2.tsz;have:=q2.mx
 rcases v with _|_|v
 ·exact⟨.p1 .andL (.p2 .andI p r),d,⟨by simp only [Pf.cnt,Fm.cnt,qQt,qQu,Tm.cnt];omega,by simp only [Pf.tsz,Fm.tsz,qQv,qQ7,Tm.tsz,Ty.size];omega,by simp only [Pf.mx,Fm.mx,Tm.mx];omega⟩,hd,o11 1 [(36,.Y),(43,.G),(49,.G),(52,.D L b (.pv (num 1))),(72,.D L c0 (.pv (num 0))),(78,.z k),(79,.D L c (.pv p.p)),(84,.z k),(85,.D L d (.pv r.p)),(87,.r (Pf.p2 .andI p r).p),(89,.r (Pf.p1 .andL (.p2 .andI p r)).p)] a42 b1 b2 gv gw gs g1 gs g2 (qCk 3 p r) (qNl 4 (.p2 .andI p r))⟩
 ·exact⟨.p1 .andR (.p2 .andI p r),d,⟨by simp only [Pf.cnt,Fm.cnt,qQt,qQu,Tm.cnt];omega,by simp only [Pf.tsz,Fm.tsz,qQv,qQ7,Tm.tsz,Ty.size];omega,by simp only [Pf.mx,Fm.mx,Tm.mx];omega⟩,hd,o11 1 [(36,.Y),(43,.G),(49,.G),(52,.D L b (.pv (num 1))),(72,.D L c0 (.pv (num 1))),(78,.z k),(79,.D L c (.pv p.p)),(84,.z k),(85,.D L d (.pv r.p)),(87,.r (Pf.p2 .andI p r).p),(89,.r (Pf.p1 .andR (.p2 .andI p r)).p)] a42 b1 b2 gv gw gs g1 gs g2 (qCk 3 p r) (qNl 5 (.p2 .andI p r))⟩
 ·omega
theorem zFp {L:List Int} (hL:Dk L) {k:Nat} (hk:H19 L k) (hkl:k≤9) {Z:Nat} {ls:List Fm} {g:List Ty} {hs:List Fm} {a:Nat} (hS:S19 Z ls g hs) (hZ:Z+cm (k+1)≤281474976710656) (ha:a≤L.length) (hg:g.length<10) (hh:hs.length<10) {b:Nat} (hb:b≤L.length) (gv:O 17 [.loc 0 0,.pv (num 17)] [(0,dk L a)] (.pv (num 2)) [(0,dk L b)]):∃ (p:Pf) (b:Nat),PG (cp (k+1)) (Z+cm (k+1)) p∧b≤L.length∧M19 L ls g hs (k+1) a p b:=by
 have hm:=qQc
 have hbg:=qQh
 have e20:M20=1048576:=rfl
 have eW:=qCl
 have hz1:=hS.z
 have hgl:=hS.gl
 have hhl:=hS.hl
 have e1:cp (k+1)=2 * cp k+10000:=rfl
 have e2:cm (k+1)=2 * cm k+W37+4 * M20:=rfl
 have e3:=qVk k
 have gs:=qVm (a:=k+1) (by omega) (by omega)
 have b1:ltI (.ofNat (g.map Ty.c).length) (.ofNat 10)=true:=qQy (by simpa using hg)
 have b2:ltI (.ofNat (hs.map Fm.c).length) (.ofNat 10)=true:=qQy (by simpa using hh)
 obtain⟨f,c,qf,hc,g1⟩:=fm1 hL hS.gs (by omega) hb
 have ff:=qf.fbd (by omega) (by omega) hz1
 have mf:=ff.2.2
 obtain⟨p,d,q1,hd,g2⟩:=hk Z ls g (hs++[f]) c (hS.with ff (Nat.le_refl _) hh) (by omega) hc
 have:=q1.cnt;have:=q1.tsz;have:=q1.mx
 have:=qf.cnt;have:=qf.tsz
 exact⟨.impI f p,d,⟨by simp only [Pf.cnt,Fm.cnt,qQt,qQu,Tm.cnt];omega,by simp only [Pf.tsz,Fm.tsz,qQv,qQ7,Tm.tsz,Ty.size];omega,by simp only [Pf.mx,Fm.mx,Tm.mx];omega⟩,hd,o9 1 [(36,.Y),(43,.G),(49,.G),(52,.D L b (.pv (num 2))),(95,.D L c (.pv f.p)),(101,.r (qJs g (hs++[f]))),(103,.z k),(104,.D L d (.pv p.p)),(105,.r (Pf.impI f p).p)] a42 b1 b2 gv g1 (a46 g hs f (by omega)) gs g2 (a45 f p)⟩
theorem zFq (H:MF) {L:List Int} (hL:Dk L) {k:Nat} (hk:H19 L k) (hkl:k≤9) {Z:Nat} {ls:List Fm} {g:List Ty} {hs:List Fm} {a:Nat} (hS:S19 Z ls g hs) (hZ:Z+cm (k+1)≤281474976710656) (ha:a≤L.length) (hg:g.length<10) (hh:hs.length<10) {b:Nat} (hb:b≤L.length) (gv:O 17 [.loc 0 0,.pv (num 17)] [(0,dk L a)] (.pv (num 3)) [(0,dk L b)]):∃ (p:Pf) (b:Nat),PG (cp (k+1)) (Z+cm (k+1)) p∧b≤L.length∧M19 L ls g hs (k+1) a p b:=by
 have hm:=qQc
 have hbg:=qQh
 have e20:M20=1048576:=rfl
 have eW:=qCl
 have hz1:=hS.z
 have hgl:=hS.gl
 have hhl:=hS.hl
 have e1:cp (k+1)=2 * cp k+10000:=rfl
 have e2:cm (k+1)=2 * cm k+W37+4 * M20:=rfl
 have e3:=qVk k
 have gs:=qVm (a:=k+1) (by omega) (by omega)
 have b1:ltI (.ofNat (g.map Ty.c).length) (.ofNat 10)=true:=qQy (by simpa using hg)
 have b2:ltI (.ofNat (hs.map Fm.c).length) (.ofNat 10)=true:=qQy (by simpa using hh)
 obtain⟨p,c,q1,hc0,g1⟩:=hk Z ls g hs b hS (by omega) hb
 have:=q1.cnt;have:=q1.tsz;have:=q1.mx
 obtain⟨r,g2,qr⟩:=zDa H hS q1 (by omega) hZ
 have e4:=qNt k (by omega)
 cases r with
 | er n =>
  obtain⟨w,c1,hw,hc,gw⟩:=nx hL hc0 (n:=4) (by omega) (by omega)
  obtain⟨x,d,q,hd,gx⟩:=tm1 hL (t:=.nat) (g:=g) (by decide) hS.gs (by omega) hc
  have cx:=q.cnt
  have mx:=q.mx
  have sx:=q.tsz
  rcases w with _|_|w
  ·cases hs with
   | nil=>exact⟨.refl x,d,⟨by simp only [Pf.cnt];omega,by simp only [Pf.tsz];omega,by simp only [Pf.mx];omega⟩,hd,o10 1 [(36,.Y),(43,.G),(49,.G),(52,.D L b (.pv (num 3))),(112,.z k),(113,.D L c (.pv p.p)),(118,.r (PR.er n).p),(388,.D L c1 (.pv (num 0))),(415,.D L d (.pv x.p)),(416,.r (Pf.refl x).p)] a42 b1 b2 gv gs g1 g2 gw gx (a21 x)⟩
   | cons f r =>
    have hr:=hS.hl
    obtain⟨i,e,hi,he,gi⟩:=nx hL hc (n:=((f::r).map Fm.c).length) (by simp) (by simp at hr ⊢;omega)
    exact⟨.leaf false i,e,⟨by simp only [Pf.cnt];omega,Nat.zero_le _,Nat.zero_le _⟩,he,o10 1 [(36,.Y),(43,.G),(49,.G),(52,.D L b (.pv (num 3))),(112,.z k),(113,.D L c (.pv p.p)),(118,.r (PR.er n).p),(388,.D L c1 (.pv (num 0))),(399,.D L e (.pv (num i))),(400,.r (Pf.leaf false i).p)] a42 b1 b2 gv gs g1 g2 gw gi (a56 i)⟩
  ·cases ls with
   | nil=>exact⟨.refl x,d,⟨by simp only [Pf.cnt];omega,by simp only [Pf.tsz];omega,by simp only [Pf.mx];omega⟩,hd,o10 1 [(36,.Y),(43,.G),(49,.G),(52,.D L b (.pv (num 3))),(112,.z k),(113,.D L c (.pv p.p)),(118,.r (PR.er n).p),(388,.D L c1 (.pv (num 1))),(415,.D L d (.pv x.p)),(416,.r (Pf.refl x).p)] a42 b1 b2 gv gs g1 g2 gw gx (a21 x)⟩
   | cons f r =>
    have hr:=hS.ll
    obtain⟨i,e,hi,he,gi⟩:=nx hL hc (n:=((f::r).map Fm.c).length) (by simp) (by simp at hr ⊢;omega)
    exact⟨.leaf true i,e,⟨by simp only [Pf.cnt];omega,Nat.zero_le _,Nat.zero_le _⟩,he,o9 1 [(36,.Y),(43,.G),(49,.G),(52,.D L b (.pv (num 3))),(112,.z k),(113,.D L c (.pv p.p)),(118,.r (PR.er n).p),(388,.D L c1 (.pv (num 1))),(409,.D L e (.pv (num i)))] a42 b1 b2 gv gs g1 g2 gw gi⟩
  ·exact⟨.refl x,d,⟨by simp only [Pf.cnt];omega,by simp only [Pf.tsz];omega,by simp only [Pf.mx];omega⟩,hd,o10 1 [(36,.Y),(43,.G),(49,.G),(52,.D L b (.pv (num 3))),(112,.z k),(113,.D L c (.pv p.p)),(118,.r (PR.er n).p),(388,.D L c1 (.pv (num (w+2)))),(415,.D L d (.pv x.p)),(416,.r (Pf.refl x).p)] a42 b1 b2 gv gs g1 g2 gw gx (a21 x)⟩
 | ok f u =>
  have hF:=qr f u rfl
  have c1:=hF.1;have c2:=hF.2.1;have c3:=hF.2.2
  obtain⟨s,d,q2,hd,g3⟩:=hk (Z+cm k+W37) ls g (hs++[f]) c (hS.with hF (by omega) hh) (by omega) hc0
  have:=q2.cnt;have:=q2.tsz;have:=q2.mx
  exact⟨.p2 .impE (.impI f s) p,d,⟨by simp only [Pf.cnt,Fm.cnt,qQt,qQu,Tm.cnt];omega,by simp only [Pf.tsz,Fm.tsz,qQv,qQ7,Tm.tsz,Ty.size];omega,by simp only [Pf.mx,Fm.mx,Tm.mx];omega⟩,hd,o12 1 [(36,.Y),(43,.G),(49,.G),(52,.D L b (.pv (num 3))),(112,.z k),(113,.D L c (.pv p.p)),(118,.r (PR.ok f u).p),(130,.r (qJs g (hs++[f]))),(132,.z k),(133,.D L d (.pv s.p)),(134,.r (Pf.impI f s).p),(137,.r (Pf.p2 .impE (.impI f s) p).p)] a42 b1 b2 gv gs g1 g2 (a46 g hs f (by omega)) gs g3 (a45 f s) (qCk 7 (.impI f s) p)⟩
theorem zFr {L:List Int} (hL:Dk L) {k:Nat} (hk:H19 L k) (hkl:k≤9) {Z:Nat} {ls:List Fm} {g:List Ty} {hs:List Fm} {a:Nat} (hS:S19 Z ls g hs) (hZ:Z+cm (k+1)≤281474976710656) (ha:a≤L.length) (hg:g.length<10) (hh:hs.length<10) {b:Nat} (hb:b≤L.length) (gv:O 17 [.loc 0 0,.pv (num 17)] [(0,dk L a)] (.pv (num 4)) [(0,dk L b)]):∃ (p:Pf) (b:Nat),PG (cp (k+1)) (Z+cm (k+1)) p∧b≤L.length∧M19 L ls g hs (k+1) a p b:=by
 have hm:=qQc
 have hbg:=qQh
 have e20:M20=1048576:=rfl
 have eW:=qCl
 have hz1:=hS.z
 have hgl:=hS.gl
 have hhl:=hS.hl
 have e1:cp (k+1)=2 * cp k+10000:=rfl
 have e2:cm (k+1)=2 * cm k+W37+4 * M20:=rfl
 have e3:=qVk k
 have gs:=qVm (a:=k+1) (by omega) (by omega)
 have b1:ltI (.ofNat (g.map Ty.c).length) (.ofNat 10)=true:=qQy (by simpa using hg)
 have b2:ltI (.ofNat (hs.map Fm.c).length) (.ofNat 10)=true:=qQy (by simpa using hh)
 obtain⟨t,c,zt,hc,g1⟩:=a37 hL 1 (by omega) hb
 have zt:t.size≤3:=zt
 obtain⟨p,d,q1,hd,g2⟩:=hk (Z+1) ls (g++[t]) (qX6 hs) c (hS.below zt hg) (by omega) hc
 have:=q1.cnt;have:=q1.tsz;have:=q1.mx
 exact⟨.all false t p,d,⟨by simp only [Pf.cnt,Fm.cnt,qQt,qQu,Tm.cnt];omega,by simp only [Pf.tsz,Fm.tsz,qQv,qQ7,Tm.tsz,Ty.size];omega,by simp only [Pf.mx,Fm.mx,Tm.mx];omega⟩,hd,o9 1 [(36,.Y),(43,.G),(49,.G),(52,.D L b (.pv (num 4))),(141,.D L c (.pv t.p)),(148,.r (qJs (g++[t]) (qX6 hs))),(150,.z k),(151,.D L d (.pv p.p)),(152,.r (Pf.all false t p).p)] a42 b1 b2 gv g1 (a48 g hs t (by omega) (by omega) (fun f hf=>by have:=hS.hb f hf;rw [hm];omega)) gs g2 (a47 false t p)⟩
theorem zFs {L:List Int} (hL:Dk L) {k:Nat} (hk:H19 L k) (hkl:k≤9) {Z:Nat} {ls:List Fm} {g:List Ty} {hs:List Fm} {a:Nat} (hS:S19 Z ls g hs) (hZ:Z+cm (k+1)≤281474976710656) (ha:a≤L.length) (hg:g.length<10) (hh:hs.length<10) {b:Nat} (hb:b≤L.length) (gv:O 17 [.loc 0 0,.pv (num 17)] [(0,dk L a)] (.pv (num 5)) [(0,dk L b)]):∃ (p:Pf) (b:Nat),PG (cp (k+1)) (Z+cm (k+1)) p∧b≤L.length∧M19 L ls g hs (k+1) a p b:=by
 have hm:=qQc
 have hbg:=qQh
 have e20:M20=1048576:=rfl
 have eW:=qCl
 have hz1:=hS.z
 have hgl:=hS.gl
 have hhl:=hS.hl
 have e1:cp (k+1)=2 * cp k+10000:=rfl
 have e2:cm (k+1)=2 * cm k+W37+4 * M20:=rfl
 have e3:=qVk k
 have gs:=qVm (a:=k+1) (by omega) (by omega)
 have b1:ltI (.ofNat (g.map Ty.c).length) (.ofNat 10)=true:=qQy (by simpa using hg)
 have b2:ltI (.ofNat (hs.map Fm.c).length) (.ofNat 10)=true:=qQy (by simpa using hh)
 obtain⟨t,c,zt,hc,g1⟩:=a37 hL 1 (by omega) hb
 have zt:t.size≤3:=zt
 obtain⟨x,c0,qx,hc0,gx⟩:=tm1 hL (t:=t) (g:=g) zt hS.gs (by omega) hc
 obtain⟨p,d,q1,hd,g2⟩:=hk (Z+1) ls (g++[t]) (qX6 hs) c0 (hS.below zt hg) (by omega) hc0
 have:=q1.cnt;have:=q1.tsz;have:=q1.mx
 have:=qx.cnt;have:=qx.tsz;have:=qx.mx
 exact⟨.ins false x (.all false t p),d,⟨by simp only [Pf.cnt,Fm.cnt,qQt,qQu,Tm.cnt];omega,by simp only [Pf.tsz,Fm.tsz,qQv,qQ7,Tm.tsz,Ty.size];omega,by simp only [Pf.mx,Fm.mx,Tm.mx];omega⟩,hd,o11 1 [(36,.Y),(43,.G),(49,.G),(52,.D L b (.pv (num 5))),(156,.D L c (.pv t.p)),(161,.D L c0 (.pv x.p)),(168,.r (qJs (g++[t]) (qX6 hs))),(170,.z k),(171,.D L d (.pv p.p)),(172,.r (Pf.all false t p).p),(173,.r (Pf.ins false x (.all false t p)).p)] a42 b1 b2 gv g1 gx (a48 g hs t (by omega) (by omega) (fun f hf=>by have:=hS.hb f hf;rw [hm];omega)) gs g2 (a47 false t p) (a49 false x (.all false t p))⟩
theorem zFt {L:List Int} (hL:Dk L) {k:Nat} (hk:H19 L k) (hkl:k≤9) {Z:Nat} {ls:List Fm} {g:List Ty} {hs:List Fm} {a:Nat} (hS:S19 Z ls g hs) (hZ:Z+cm (k+1)≤281474976710656) (ha:a≤L.length) (hg:g.length<10) (hh:hs.length<10) {b:Nat} (hb:b≤L.length) (gv:O 17 [.loc 0 0,.pv (num 17)] [(0,dk L a)] (.pv (num 6)) [(0,dk L b)]):∃ (p:Pf) (b:Nat),PG (cp (k+1)) (Z+cm (k+1)) p∧b≤L.length∧M19 L ls g hs (k+1) a p b:=by
 have hm:=qQc
 have hbg:=qQh
 have e20:M20=1048576:=rfl
 have eW:=qCl
 have hz1:=hS.z
 have hgl:=hS.gl
 have hhl:=hS.hl
 have e1:cp (k+1)=2 * cp k+10000:=rfl
 have e2:cm (k+1)=2 * cm k+W37+4 * M20:=rfl
 have e3:=qVk k
 have gs:=qVm (a:=k+1) (by omega) (by omega)
 have b1:ltI (.ofNat (g.map Ty.c).length) (.ofNat 10)=true:=qQy (by simpa using hg)
 have b2:ltI (.ofNat (hs.map Fm.c).length) (.ofNat 10)=true:=qQy (by simpa using hh)
 obtain⟨x,c,qx,hc,gx⟩:=tm1 hL (t:=.nat) (g:=g) (by decide) hS.gs (by omega) hb
 obtain⟨v,d,hv,hd,gw⟩:=nx hL hc (n:=2) (by omega) (by omega)
 have:=qx.cnt;have:=qx.tsz;have:=qx.mx
 have m1:=qKy 1 x 0
 have e5:(1:Int).toNat=1:=rfl
 have gu:=a50 x (by omega) (by rw [hm];omega)
 rcases v with _|_|v
 ·exact⟨.ex false (.q .ex .nat (.eq (x.sh 0 1) (.v 0))) x (.refl x),d,⟨by simp only [Pf.cnt,Fm.cnt,qQt,qQu,Tm.cnt];omega,by simp only [Pf.tsz,Fm.tsz,qQv,qQ7,Tm.tsz,Ty.size];omega,by simp only [Pf.mx,Fm.mx,Tm.mx];omega⟩,hd,o12 1 [(36,.Y),(43,.G),(49,.G),(52,.D L b (.pv (num 6))),(180,.D L c (.pv x.p)),(182,.D L d (.pv (num 0))),(189,.r (x.sh 0 1).p),(190,.r (Tm.v 0).p),(191,.r (Fm.eq (x.sh 0 1) (.v 0)).p),(192,.r (Fm.q .ex .nat (.eq (x.sh 0 1) (.v 0))).p),(200,.r (Pf.refl x).p),(201,.r (Pf.ex false (.q .ex .nat (.eq (x.sh 0 1) (.v 0))) x (.refl x)).p)] a42 b1 b2 gv gx gw gu (a51 0) (a43 (x.sh 0 1) (.v 0)) (a40 .ex .nat (.eq (x.sh 0 1) (.v 0))) (a21 x) (a52 false (.q .ex .nat (.eq (x.sh 0 1) (.v 0))) x (.refl x))⟩
 ·exact⟨.ex true (.q .exU .nat (.eq (x.sh 0 1) (.v 0))) x (.refl x),d,⟨by simp only [Pf.cnt,Fm.cnt,qQt,qQu,Tm.cnt];omega,by simp only [Pf.tsz,Fm.tsz,qQv,qQ7,Tm.tsz,Ty.size];omega,by simp only [Pf.mx,Fm.mx,Tm.mx];omega⟩,hd,o12 1 [(36,.Y),(43,.G),(49,.G),(52,.D L b (.pv (num 6))),(180,.D L c (.pv x.p)),(182,.D L d (.pv (num 1))),(189,.r (x.sh 0 1).p),(190,.r (Tm.v 0).p),(191,.r (Fm.eq (x.sh 0 1) (.v 0)).p),(192,.r (Fm.q .exU .nat (.eq (x.sh 0 1) (.v 0))).p),(200,.r (Pf.refl x).p),(201,.r (Pf.ex true (.q .exU .nat (.eq (x.sh 0 1) (.v 0))) x (.refl x)).p)] a42 b1 b2 gv gx gw gu (a51 0) (a43 (x.sh 0 1) (.v 0)) (a40 .exU .nat (.eq (x.sh 0 1) (.v 0))) (a21 x) (a52 true (.q .exU .nat (.eq (x.sh 0 1) (.v 0))) x (.refl x))⟩
 ·omega
theorem zFu (H:MF) {L:List Int} (hL:Dk L) {k:Nat} (hk:H19 L k) (hkl:k≤9) {Z:Nat} {ls:List Fm} {g:List Ty} {hs:List Fm} {a:Nat} (hS:S19 Z ls g hs) (hZ:Z+cm (k+1)≤281474976710656) (ha:a≤L.length) (hg:g.length<10) (hh:hs.length<10) {b:Nat} (hb:b≤L.length) (gv:O 17 [.loc 0 0,.pv (num 17)] [(0,dk L a)] (.pv (num 7)) [(0,dk L b)]):∃ (p:Pf) (b:Nat),PG (cp (k+1)) (Z+cm (k+1)) p∧b≤L.length∧M19 L ls g hs (k+1) a p b:=by
 have hm:=qQc
 have hbg:=qQh
 have e20:M20=1048576:=rfl
 have eW:=qCl
 have hz1:=hS.z
 have hgl:=hS.gl
 have hhl:=hS.hl
 have e1:cp (k+1)=2 * cp k+10000:=rfl
 have e2:cm (k+1)=2 * cm k+W37+4 * M20:=rfl
 have e3:=qVk k
 have gs:=qVm (a:=k+1) (by omega) (by omega)
 have b1:ltI (.ofNat (g.map Ty.c).length) (.ofNat 10)=true:=qQy (by simpa using hg)
 have b2:ltI (.ofNat (hs.map Fm.c).length) (.ofNat 10)=true:=qQy (by simpa using hh)
 obtain⟨p,c,q1,hc0,g1⟩:=hk Z ls g hs b hS (by omega) hb
 have:=q1.cnt;have:=q1.tsz;have:=q1.mx
 obtain⟨r,g2,qr⟩:=zDa H hS q1 (by omega) hZ
 have e4:=qNt k (by omega)
 cases r with
 | er n =>
  obtain⟨w,c1,hw,hc,gw⟩:=nx hL hc0 (n:=4) (by omega) (by omega)
  obtain⟨x,d,q,hd,gx⟩:=tm1 hL (t:=.nat) (g:=g) (by decide) hS.gs (by omega) hc
  have cx:=q.cnt
  have mx:=q.mx
  have sx:=q.tsz
  rcases w with _|_|w
  ·cases hs with
   | nil=>exact⟨.refl x,d,⟨by simp only [Pf.cnt];omega,by simp only [Pf.tsz];omega,by simp only [Pf.mx];omega⟩,hd,o10 1 [(36,.Y),(43,.G),(49,.G),(52,.D L b (.pv (num 7))),(208,.z k),(209,.D L c (.pv p.p)),(214,.r (PR.er n).p),(388,.D L c1 (.pv (num 0))),(415,.D L d (.pv x.p)),(416,.r (Pf.refl x).p)] a42 b1 b2 gv gs g1 g2 gw gx (a21 x)⟩
   | cons f r =>
    have hr:=hS.hl
    obtain⟨i,e,hi,he,gi⟩:=nx hL hc (n:=((f::r).map Fm.c).length) (by simp) (by simp at hr ⊢;omega)
    exact⟨.leaf false i,e,⟨by simp only [Pf.cnt];omega,Nat.zero_le _,Nat.zero_le _⟩,he,o10 1 [(36,.Y),(43,.G),(49,.G),(52,.D L b (.pv (num 7))),(208,.z k),(209,.D L c (.pv p.p)),(214,.r (PR.er n).p),(388,.D L c1 (.pv (num 0))),(399,.D L e (.pv (num i))),(400,.r (Pf.leaf false i).p)] a42 b1 b2 gv gs g1 g2 gw gi (a56 i)⟩
  ·cases ls with
   | nil=>exact⟨.refl x,d,⟨by simp only [Pf.cnt];omega,by simp only [Pf.tsz];omega,by simp only [Pf.mx];omega⟩,hd,o10 1 [(36,.Y),(43,.G),(49,.G),(52,.D L b (.pv (num 7))),(208,.z k),(209,.D L c (.pv p.p)),(214,.r (PR.er n).p),(388,.D L c1 (.pv (num 1))),(415,.D L d (.pv x.p)),(416,.r (Pf.refl x).p)] a42 b1 b2 gv gs g1 g2 gw gx (a21 x)⟩
   | cons f r =>
    have hr:=hS.ll
    obtain⟨i,e,hi,he,gi⟩:=nx hL hc (n:=((f::r).map Fm.c).length) (by simp) (by simp at hr ⊢;omega)
    exact⟨.leaf true i,e,⟨by simp only [Pf.cnt];omega,Nat.zero_le _,Nat.zero_le _⟩,he,o9 1 [(36,.Y),(43,.G),(49,.G),(52,.D L b (.pv (num 7))),(208,.z k),(209,.D L c (.pv p.p)),(214,.r (PR.er n).p),(388,.D L c1 (.pv (num 1))),(409,.D L e (.pv (num i)))] a42 b1 b2 gv gs g1 g2 gw gi⟩
  ·exact⟨.refl x,d,⟨by simp only [Pf.cnt];omega,by simp only [Pf.tsz];omega,by simp only [Pf.mx];omega⟩,hd,o10 1 [(36,.Y),(43,.G),(49,.G),(52,.D L b (.pv (num 7))),(208,.z k),(209,.D L c (.pv p.p)),(214,.r (PR.er n).p),(388,.D L c1 (.pv (num (w+2)))),(415,.D L d (.pv x.p)),(416,.r (Pf.refl x).p)] a42 b1 b2 gv gs g1 g2 gw gx (a21 x)⟩
 | ok f u =>
  have hF:=qr f u rfl
  have c1:=hF.1;have c2:=hF.2.1;have c3:=hF.2.2
  have c4:=qJ8 1 f 0
  have e5:(1:Int).toNat=1:=rfl
  have gu:=a53 f 0 1 (by omega) (by omega) (by rw [hm];omega) (by omega)
  obtain⟨t,d,zt,hd,g3⟩:=a37 hL 1 (by omega) hc0
  have zt:t.size≤3:=zt
  obtain⟨v,e,hv,he,gw⟩:=nx hL hd (n:=2) (by omega) (by omega)
  obtain⟨x,h,qx,hh',gx⟩:=tm1 hL (t:=t) (g:=g) zt hS.gs (by omega) he
  have:=qx.cnt;have:=qx.tsz;have:=qx.mx
  rcases v with _|_|v
  ·exact⟨.ex false (.q .ex t (f.sh 0 1)) x p,h,⟨by simp only [Pf.cnt,Fm.cnt,qQt,qQu,Tm.cnt];omega,by simp only [Pf.tsz,Fm.tsz,qQv,qQ7,Tm.tsz,Ty.size];omega,by simp only [Pf.mx,Fm.mx,Tm.mx];omega⟩,hh',o13 1 [(36,.Y),(43,.G),(49,.G),(52,.D L b (.pv (num 7))),(208,.z k),(209,.D L c (.pv p.p)),(214,.r (PR.ok f u).p),(220,.D L d (.pv t.p)),(222,.D L e (.pv (num 0))),(230,.r (f.sh 0 1).p),(231,.r (Fm.q .ex t (f.sh 0 1)).p),(241,.D L h (.pv x.p)),(243,.r (Pf.ex false (.q .ex t (f.sh 0 1)) x p).p)] a42 b1 b2 gv gs g1 g2 g3 gw gu (a40 .ex t (f.sh 0 1)) gx (a52 false (.q .ex t (f.sh 0 1)) x p)⟩
  ·exact⟨.ex true (.q .exU t (f.sh 0 1)) x p,h,⟨by simp only [Pf.cnt,Fm.cnt,qQt,qQu,Tm.cnt];omega,by simp only [Pf.tsz,Fm.tsz,qQv,qQ7,Tm.tsz,Ty.size];omega,by simp only [Pf.mx,Fm.mx,Tm.mx];omega⟩,hh',o13 1 [(36,.Y),(43,.G),(49,.G),(52,.D L b (.pv (num 7))),(208,.z k),(209,.D L c (.pv p.p)),(214,.r (PR.ok f u).p),(220,.D L d (.pv t.p)),(222,.D L e (.pv (num 1))),(230,.r (f.sh 0 1).p),(231,.r (Fm.q .exU t (f.sh 0 1)).p),(241,.D L h (.pv x.p)),(243,.r (Pf.ex true (.q .exU t (f.sh 0 1)) x p).p)] a42 b1 b2 gv gs g1 g2 g3 gw gu (a40 .exU t (f.sh 0 1)) gx (a52 true (.q .exU t (f.sh 0 1)) x p)⟩
  ·omega
theorem zFv {L:List Int} (hL:Dk L) {k:Nat} (hk:H19 L k) (Ho:H54 L k) (hkl:k≤9) {Z:Nat} {ls:List Fm} {g:List Ty} {hs:List Fm} {a:Nat} (hS:S19 Z ls g hs) (hZ:Z+cm (k+1)≤281474976710656) (ha:a≤L.length) (hg:g.length<10) (hh:hs.length<10) {b:Nat} (hb:b≤L.length) (gv:O 17 [.loc 0 0,.pv (num 17)] [(0,dk L a)] (.pv (num 8)) [(0,dk L b)]):∃ (p:Pf) (b:Nat),PG (cp (k+1)) (Z+cm (k+1)) p∧b≤L.length∧M19 L ls g hs (k+1) a p b:=by
 have hm:=qQc
 have hbg:=qQh
 have e20:M20=1048576:=rfl
 have eW:=qCl
 have hz1:=hS.z
 have hgl:=hS.gl
 have hhl:=hS.hl
 have e1:cp (k+1)=2 * cp k+10000:=rfl
 have e2:cm (k+1)=2 * cm k+W37+4 * M20:=rfl
 have e3:=qVk k
 have gs:=qVm (a:=k+1) (by omega) (by omega)
 have b1:ltI (.ofNat (g.map Ty.c).length) (.ofNat 10)=true:=qQy (by simpa using hg)
 have b2:ltI (.ofNat (hs.map Fm.c).length) (.ofNat 10)=true:=qQy (by simpa using hh)
 obtain⟨p,c,q1,hc,g1⟩:=Ho Z ls g hs b hS hg hh hZ hb
 exact⟨p,c,q1,hc,o5 1 [(36,.Y),(43,.G),(49,.G),(52,.D L b (.pv (num 8))),(250,.D L c (.pv p.p))] a42 b1 b2 gv g1⟩
theorem zFw (H:MF) {L:List Int} (hL:Dk L) {k:Nat} (hk:H19 L k) (hkl:k≤9) {Z:Nat} {ls:List Fm} {g:List Ty} {hs:List Fm} {a:Nat} (hS:S19 Z ls g hs) (hZ:Z+cm (k+1)≤281474976710656) (ha:a≤L.length) (hg:g.length<10) (hh:hs.length<10) {b:Nat} (hb:b≤L.length) (gv:O 17 [.loc 0 0,.pv (num 17)] [(0,dk L a)] (.pv (num 9)) [(0,dk L b)]):∃ (p:Pf) (b:Nat),PG (cp (k+1)) (Z+cm (k+1)) p∧b≤L.length∧M19 L ls g hs (k+1) a p b:=by
 have hm:=qQc
 have hbg:=qQh
 have e20:M20=1048576:=rfl
 have eW:=qCl
 have hz1:=hS.z
 have hgl:=hS.gl
 have hhl:=hS.hl
 have e1:cp (k+1)=2 * cp k+10000:=rfl
 have e2:cm (k+1)=2 * cm k+W37+4 * M20:=rfl
 have e3:=qVk k
 have gs:=qVm (a:=k+1) (by omega) (by omega)
 have b1:ltI (.ofNat (g.map Ty.c).length) (.ofNat 10)=true:=qQy (by simpa using hg)
 have b2:ltI (.ofNat (hs.map Fm.c).length) (.ofNat 10)=true:=qQy (by simpa using hh)
 obtain⟨p,c,q1,hc0,g1⟩:=hk Z ls g hs b hS (by omega) hb
 have:=q1.cnt;have:=q1.tsz;have:=q1.mx
 obtain⟨r,g2,qr⟩:=zDa H hS q1 (by omega) hZ
 have e4:=qNt k (by omega)
 cases r with
 | er n =>
  obtain⟨w,c1,hw,hc,gw⟩:=nx hL hc0 (n:=4) (by omega) (by omega)
  obtain⟨x,d,q,hd,gx⟩:=tm1 hL (t:=.nat) (g:=g) (by decide) hS.gs (by omega) hc
  have cx:=q.cnt
  have mx:=q.mx
  have sx:=q.tsz
  rcases w with _|_|w
  ·cases hs with
   | nil=>exact⟨.refl x,d,⟨by simp only [Pf.cnt];omega,by simp only [Pf.tsz];omega,by simp only [Pf.mx];omega⟩,hd,o10 1 [(36,.Y),(43,.G),(49,.G),(52,.D L b (.pv (num 9))),(257,.z k),(258,.D L c (.pv p.p)),(263,.r (PR.er n).p),(388,.D L c1 (.pv (num 0))),(415,.D L d (.pv x.p)),(416,.r (Pf.refl x).p)] a42 b1 b2 gv gs g1 g2 gw gx (a21 x)⟩
   | cons f r =>
    have hr:=hS.hl
    obtain⟨i,e,hi,he,gi⟩:=nx hL hc (n:=((f::r).map Fm.c).length) (by simp) (by simp at hr ⊢;omega)
    exact⟨.leaf false i,e,⟨by simp only [Pf.cnt];omega,Nat.zero_le _,Nat.zero_le _⟩,he,o10 1 [(36,.Y),(43,.G),(49,.G),(52,.D L b (.pv (num 9))),(257,.z k),(258,.D L c (.pv p.p)),(263,.r (PR.er n).p),(388,.D L c1 (.pv (num 0))),(399,.D L e (.pv (num i))),(400,.r (Pf.leaf false i).p)] a42 b1 b2 gv gs g1 g2 gw gi (a56 i)⟩
  ·cases ls with
   | nil=>exact⟨.refl x,d,⟨by simp only [Pf.cnt];omega,by simp only [Pf.tsz];omega,by simp only [Pf.mx];omega⟩,hd,o10 1 [(36,.Y),(43,.G),(49,.G),(52,.D L b (.pv (num 9))),(257,.z k),(258,.D L c (.pv p.p)),(263,.r (PR.er n).p),(388,.D L c1 (.pv (num 1))),(415,.D L d (.pv x.p)),(416,.r (Pf.refl x).p)] a42 b1 b2 gv gs g1 g2 gw gx (a21 x)⟩
   | cons f r =>
    have hr:=hS.ll
    obtain⟨i,e,hi,he,gi⟩:=nx hL hc (n:=((f::r).map Fm.c).length) (by simp) (by simp at hr ⊢;omega)
    exact⟨.leaf true i,e,⟨by simp only [Pf.cnt];omega,Nat.zero_le _,Nat.zero_le _⟩,he,o9 1 [(36,.Y),(43,.G),(49,.G),(52,.D L b (.pv (num 9))),(257,.z k),(258,.D L c (.pv p.p)),(263,.r (PR.er n).p),(388,.D L c1 (.pv (num 1))),(409,.D L e (.pv (num i)))] a42 b1 b2 gv gs g1 g2 gw gi⟩
  ·exact⟨.refl x,d,⟨by simp only [Pf.cnt];omega,by simp only [Pf.tsz];omega,by simp only [Pf.mx];omega⟩,hd,o10 1 [(36,.Y),(43,.G),(49,.G),(52,.D L b (.pv (num 9))),(257,.z k),(258,.D L c (.pv p.p)),(263,.r (PR.er n).p),(388,.D L c1 (.pv (num (w+2)))),(415,.D L d (.pv x.p)),(416,.r (Pf.refl x).p)] a42 b1 b2 gv gs g1 g2 gw gx (a21 x)⟩
 | ok f u =>
  have hF:=qr f u rfl
  have c1:=hF.1;have c2:=hF.2.1;have c3:=hF.2.2
  have c4:=qJ8 1 f 0
  have e5:(1:Int).toNat=1:=rfl
  have gu:=a53 f 0 1 (by omega) (by omega) (by rw [hm];omega) (by omega)
  obtain⟨x,d,qx,hd,gx⟩:=tm1 hL (t:=.nat) (g:=g) (by decide) hS.gs (by omega) hc0
  have:=qx.cnt;have:=qx.tsz;have:=qx.mx
  exact⟨.ind false (f.sh 0 1) x p (.leaf false 0),d,⟨by simp only [Pf.cnt,Fm.cnt,qQt,qQu,Tm.cnt];omega,by simp only [Pf.tsz,Fm.tsz,qQv,qQ7,Tm.tsz,Ty.size];omega,by simp only [Pf.mx,Fm.mx,Tm.mx];omega⟩,hd,o11 1 [(36,.Y),(43,.G),(49,.G),(52,.D L b (.pv (num 9))),(257,.z k),(258,.D L c (.pv p.p)),(263,.r (PR.ok f u).p),(270,.r (f.sh 0 1).p),(275,.D L d (.pv x.p)),(277,.r (Pf.leaf false 0).p),(278,.r (Pf.ind false (f.sh 0 1) x p (.leaf false 0)).p)] a42 b1 b2 gv gs g1 g2 gu gx (a56 0) (a55 false (f.sh 0 1) x p (.leaf false 0))⟩
theorem zBo (H:MF) {L:List Int} (hL:Dk L) {k:Nat} (hk:H19 L k) (hkl:k≤9) {Z:Nat} {ls:List Fm} {g:List Ty} {hs:List Fm} {a:Nat} (hS:S19 Z ls g hs) (hZ:Z+cm (k+1)≤281474976710656) (ha:a≤L.length) (hg:g.length<10) (hh:hs.length<10) {b:Nat} (hb:b≤L.length) (gv:O 17 [.loc 0 0,.pv (num 17)] [(0,dk L a)] (.pv (num 10)) [(0,dk L b)]):∃ (p:Pf) (b:Nat),PG (cp (k+1)) (Z+cm (k+1)) p∧b≤L.length∧M19 L ls g hs (k+1) a p b:=by
 have hm:=qQc
 have hbg:=qQh
 have e20:M20=1048576:=rfl
 have eW:=qCl
 have hz1:=hS.z
 have hgl:=hS.gl
 have hhl:=hS.hl
 have e1:cp (k+1)=2 * cp k+10000:=rfl
 have e2:cm (k+1)=2 * cm k+W37+4 * M20:=rfl
 have e3:=qVk k
 have gs:=qVm (a:=k+1) (by omega) (by omega)
 have b1:ltI (.ofNat (g.map Ty.c).length) (.ofNat 10)=true:=qQy (by simpa using hg)
 have b2:ltI (.ofNat (hs.map Fm.c).length) (.ofNat 10)=true:=qQy (by simpa using hh)
 obtain⟨p,c,q1,hc0,g1⟩:=hk Z ls g hs b hS (by omega) hb
 have:=q1.cnt;have:=q1.tsz;have:=q1.mx
 obtain⟨r,g2,qr⟩:=zDa H hS q1 (by omega) hZ
 have e4:=qNt k (by omega)
 cases r with
 | er n =>
  obtain⟨w,c1,hw,hc,gw⟩:=nx hL hc0 (n:=4) (by omega) (by omega)
  obtain⟨x,d,q,hd,gx⟩:=tm1 hL (t:=.nat) (g:=g) (by decide) hS.gs (by omega) hc
  have cx:=q.cnt
  have mx:=q.mx
  have sx:=q.tsz
  rcases w with _|_|w
  ·cases hs with
   | nil=>exact⟨.refl x,d,⟨by simp only [Pf.cnt];omega,by simp only [Pf.tsz];omega,by simp only [Pf.mx];omega⟩,hd,o10 1 [(36,.Y),(43,.G),(49,.G),(52,.D L b (.pv (num 10))),(285,.z k),(286,.D L c (.pv p.p)),(291,.r (PR.er n).p),(388,.D L c1 (.pv (num 0))),(415,.D L d (.pv x.p)),(416,.r (Pf.refl x).p)] a42 b1 b2 gv gs g1 g2 gw gx (a21 x)⟩
   | cons f r =>
    have hr:=hS.hl
    obtain⟨i,e,hi,he,gi⟩:=nx hL hc (n:=((f::r).map Fm.c).length) (by simp) (by simp at hr ⊢;omega)
    exact⟨.leaf false i,e,⟨by simp only [Pf.cnt];omega,Nat.zero_le _,Nat.zero_le _⟩,he,o10 1 [(36,.Y),(43,.G),(49,.G),(52,.D L b (.pv (num 10))),(285,.z k),(286,.D L c (.pv p.p)),(291,.r (PR.er n).p),(388,.D L c1 (.pv (num 0))),(399,.D L e (.pv (num i))),(400,.r (Pf.leaf false i).p)] a42 b1 b2 gv gs g1 g2 gw gi (a56 i)⟩
  ·cases ls with
   | nil=>exact⟨.refl x,d,⟨by simp only [Pf.cnt];omega,by simp only [Pf.tsz];omega,by simp only [Pf.mx];omega⟩,hd,o10 1 [(36,.Y),(43,.G),(49,.G),(52,.D L b (.pv (num 10))),(285,.z k),(286,.D L c (.pv p.p)),(291,.r (PR.er n).p),(388,.D L c1 (.pv (num 1))),(415,.D L d (.pv x.p)),(416,.r (Pf.refl x).p)] a42 b1 b2 gv gs g1 g2 gw gx (a21 x)⟩
   | cons f r =>
    have hr:=hS.ll
    obtain⟨i,e,hi,he,gi⟩:=nx hL hc (n:=((f::r).map Fm.c).length) (by simp) (by simp at hr ⊢;omega)
    exact⟨.leaf true i,e,⟨by simp only [Pf.cnt];omega,Nat.zero_le _,Nat.zero_le _⟩,he,o9 1 [(36,.Y),(43,.G),(49,.G),(52,.D L b (.pv (num 10))),(285,.z k),(286,.D L c (.pv p.p)),(291,.r (PR.er n).p),(388,.D L c1 (.pv (num 1))),(409,.D L e (.pv (num i)))] a42 b1 b2 gv gs g1 g2 gw gi⟩
  ·exact⟨.refl x,d,⟨by simp only [Pf.cnt];omega,by simp only [Pf.tsz];omega,by simp only [Pf.mx];omega⟩,hd,o10 1 [(36,.Y),(43,.G),(49,.G),(52,.D L b (.pv (num 10))),(285,.z k),(286,.D L c (.pv p.p)),(291,.r (PR.er n).p),(388,.D L c1 (.pv (num (w+2)))),(415,.D L d (.pv x.p)),(416,.r (Pf.refl x).p)] a42 b1 b2 gv gs g1 g2 gw gx (a21 x)⟩
 | ok f u =>
  have hF:=qr f u rfl
  have c1:=hF.1;have c2:=hF.2.1;have c3:=hF.2.2
  have c4:=qJ8 1 f 0
  have e5:(1:Int).toNat=1:=rfl
  have gu:=a53 f 0 1 (by omega) (by omega) (by rw [hm];omega) (by omega)
  obtain⟨x,d,qx,hd,gx⟩:=tm1 hL (t:=.list) (g:=g) (by decide) hS.gs (by omega) hc0
  have:=qx.cnt;have:=qx.tsz;have:=qx.mx
  exact⟨.ind true (f.sh 0 1) x p (.leaf false 0),d,⟨by simp only [Pf.cnt,Fm.cnt,qQt,qQu,Tm.cnt];omega,by simp only [Pf.tsz,Fm.tsz,qQv,qQ7,Tm.tsz,Ty.size];omega,by simp only [Pf.mx,Fm.mx,Tm.mx];omega⟩,hd,o12 1 [(36,.Y),(43,.G),(49,.G),(52,.D L b (.pv (num 10))),(285,.z k),(286,.D L c (.pv p.p)),(291,.r (PR.ok f u).p),(298,.r (f.sh 0 1).p),(302,.r Ty.list.p),(303,.D L d (.pv x.p)),(305,.r (Pf.leaf false 0).p),(306,.r (Pf.ind true (f.sh 0 1) x p (.leaf false 0)).p)] a42 b1 b2 gv gs g1 g2 gu a57 gx (a56 0) (a55 true (f.sh 0 1) x p (.leaf false 0))⟩
theorem zBp {L:List Int} (hL:Dk L) {k:Nat} (hk:H19 L k) (hkl:k≤9) {Z:Nat} {ls:List Fm} {g:List Ty} {hs:List Fm} {a:Nat} (hS:S19 Z ls g hs) (hZ:Z+cm (k+1)≤281474976710656) (ha:a≤L.length) (hg:g.length<10) (hh:hs.length<10) {b:Nat} (hb:b≤L.length) (gv:O 17 [.loc 0 0,.pv (num 17)] [(0,dk L a)] (.pv (num 11)) [(0,dk L b)]):∃ (p:Pf) (b:Nat),PG (cp (k+1)) (Z+cm (k+1)) p∧b≤L.length∧M19 L ls g hs (k+1) a p b:=by
 have hm:=qQc
 have hbg:=qQh
 have e20:M20=1048576:=rfl
 have eW:=qCl
 have hz1:=hS.z
 have hgl:=hS.gl
 have hhl:=hS.hl
 have e1:cp (k+1)=2 * cp k+10000:=rfl
 have e2:cm (k+1)=2 * cm k+W37+4 * M20:=rfl
 have e3:=qVk k
 have gs:=qVm (a:=k+1) (by omega) (by omega)
 have b1:ltI (.ofNat (g.map Ty.c).length) (.ofNat 10)=true:=qQy (by simpa using hg)
 have b2:ltI (.ofNat (hs.map Fm.c).length) (.ofNat 10)=true:=qQy (by simpa using hh)
 obtain⟨x,c,qx,hc,gx⟩:=tm1 hL (t:=.nat) (g:=g) (by decide) hS.gs (by omega) hb
 have:=qx.cnt;have:=qx.tsz;have:=qx.mx
 have z1:(qS7 x).cnt≤x.cnt+1000:=by
  simp only [qS7,Pf.cnt];have:stepP.cnt≤900:=by decide
  have:(Fm.eq pl0 (.v 0)).cnt≤50:=by decide
  have:(qJr 0).cnt≤10:=by decide
  omega
 have z2:(qS7 x).tsz≤x.tsz+10:=by
  simp only [qS7,Pf.tsz];have:stepP.tsz≤10:=by decide
  have:(Fm.eq pl0 (.v 0)).tsz≤10:=by decide
  have:(qJr 0).tsz≤10:=by decide
  omega
 have z3:(qS7 x).mx≤x.mx+10:=by
  simp only [qS7,Pf.mx];have:stepP.mx≤10:=by decide
  have:(Fm.eq pl0 (.v 0)).mx≤10:=by decide
  have:(qJr 0).mx≤10:=by decide
  omega
 exact⟨qS7 x,c,⟨by omega,by omega,by omega⟩,hc,o6 1 [(36,.Y),(43,.G),(49,.G),(52,.D L b (.pv (num 11))),(313,.D L c (.pv x.p)),(314,.r (qS7 x).p)] a42 b1 b2 gv gx (a58 x)⟩
theorem zBq {L:List Int} (hL:Dk L) {k:Nat} (hk:H19 L k) (hkl:k≤9) {Z:Nat} {ls:List Fm} {g:List Ty} {hs:List Fm} {a:Nat} (hS:S19 Z ls g hs) (hZ:Z+cm (k+1)≤281474976710656) (ha:a≤L.length) (hg:g.length<10) (hh:hs.length<10) {b:Nat} (hb:b≤L.length) (gv:O 17 [.loc 0 0,.pv (num 17)] [(0,dk L a)] (.pv (num 12)) [(0,dk L b)]):∃ (p:Pf) (b:Nat),PG (cp (k+1)) (Z+cm (k+1)) p∧b≤L.length∧M19 L ls g hs (k+1) a p b:=by
 have hm:=qQc
 have hbg:=qQh
 have e20:M20=1048576:=rfl
 have eW:=qCl
 have hz1:=hS.z
 have hgl:=hS.gl
 have hhl:=hS.hl
 have e1:cp (k+1)=2 * cp k+10000:=rfl
 have e2:cm (k+1)=2 * cm k+W37+4 * M20:=rfl
 have e3:=qVk k
 have gs:=qVm (a:=k+1) (by omega) (by omega)
 have b1:ltI (.ofNat (g.map Ty.c).length) (.ofNat 10)=true:=qQy (by simpa using hg)
 have b2:ltI (.ofNat (hs.map Fm.c).length) (.ofNat 10)=true:=qQy (by simpa using hh)
 obtain⟨x,c,qx,hc,gx⟩:=tm1 hL (t:=.nat) (g:=g) (by decide) hS.gs (by omega) hb
 obtain⟨y,d,qy,hd,gy⟩:=tm1 hL (t:=.nat) (g:=g) (by decide) hS.gs (by omega) hc
 have:=qx.cnt;have:=qx.tsz;have:=qx.mx
 have:=qy.cnt;have:=qy.tsz;have:=qy.mx
 have m1:=qKy 1 y 0
 have e5:(1:Int).toNat=1:=rfl
 have gu:=a50 y (by omega) (by rw [hm];omega)
 exact⟨.subst (.eq (y.sh 0 1) (y.sh 0 1)) (.refl x) (.refl y),d,⟨by simp only [Pf.cnt,Fm.cnt,qQt,qQu,Tm.cnt];omega,by simp only [Pf.tsz,Fm.tsz,qQv,qQ7,Tm.tsz,Ty.size];omega,by simp only [Pf.mx,Fm.mx,Tm.mx];omega⟩,hd,o12 1 [(36,.Y),(43,.G),(49,.G),(52,.D L b (.pv (num 12))),(321,.D L c (.pv x.p)),(326,.D L d (.pv y.p)),(328,.r (y.sh 0 1).p),(330,.r (y.sh 0 1).p),(331,.r (Fm.eq (y.sh 0 1) (y.sh 0 1)).p),(333,.r (Pf.refl x).p),(335,.r (Pf.refl y).p),(336,.r (Pf.subst (.eq (y.sh 0 1) (y.sh 0 1)) (.refl x) (.refl y)).p)] a42 b1 b2 gv gx gy gu gu (a43 (y.sh 0 1) (y.sh 0 1)) (a21 x) (a21 y) (a59 (.eq (y.sh 0 1) (y.sh 0 1)) (.refl x) (.refl y))⟩
theorem zBr {L:List Int} (hL:Dk L) {k:Nat} (hk:H19 L k) (hkl:k≤9) {Z:Nat} {ls:List Fm} {g:List Ty} {hs:List Fm} {a:Nat} (hS:S19 Z ls g hs) (hZ:Z+cm (k+1)≤281474976710656) (ha:a≤L.length) (hg:g.length<10) (hh:hs.length<10) {b:Nat} (hb:b≤L.length) (gv:O 17 [.loc 0 0,.pv (num 17)] [(0,dk L a)] (.pv (num 13)) [(0,dk L b)]):∃ (p:Pf) (b:Nat),PG (cp (k+1)) (Z+cm (k+1)) p∧b≤L.length∧M19 L ls g hs (k+1) a p b:=by
 have hm:=qQc
 have hbg:=qQh
 have e20:M20=1048576:=rfl
 have eW:=qCl
 have hz1:=hS.z
 have hgl:=hS.gl
 have hhl:=hS.hl
 have e1:cp (k+1)=2 * cp k+10000:=rfl
 have e2:cm (k+1)=2 * cm k+W37+4 * M20:=rfl
 have e3:=qVk k
 have gs:=qVm (a:=k+1) (by omega) (by omega)
 have b1:ltI (.ofNat (g.map Ty.c).length) (.ofNat 10)=true:=qQy (by simpa using hg)
 have b2:ltI (.ofNat (hs.map Fm.c).length) (.ofNat 10)=true:=qQy (by simpa using hh)
 obtain⟨t,c,zt,hc,g1⟩:=a37 hL 0 (by omega) hb
 have zt:t.size≤3:=Nat.le_trans zt (by decide)
 obtain⟨x,d,qx,hd,g2⟩:=a60 hL (g:=g++[t]) (hs:=qX6 hs) (qG5 hS.gs (by simpa using zt)) (by simp;omega) hc
 have:=qx.cnt;have:=qx.tsz;have:=qx.mx
 have:(g++[t]).length=g.length+1:=by simp
 have m1:=qKy 1 x 0
 have e5:(1:Int).toNat=1:=rfl
 exact⟨.p1 .choice (.all false t (qWc x)),d,⟨by simp only [Pf.cnt,Fm.cnt,qQt,qQu,Tm.cnt];omega,by simp only [Pf.tsz,Fm.tsz,qQv,qQ7,Tm.tsz,Ty.size];omega,by simp only [Pf.mx,Fm.mx,Tm.mx];omega⟩,hd,o9 1 [(36,.Y),(43,.G),(49,.G),(52,.D L b (.pv (num 13))),(340,.D L c (.pv t.p)),(346,.r (qJs (g++[t]) (qX6 hs))),(347,.D L d (.pv (qWc x).p)),(348,.r (Pf.all false t (qWc x)).p),(350,.r (Pf.p1 .choice (.all false t (qWc x))).p)] a42 b1 b2 gv g1 (a48 g hs t (by omega) (by omega) (fun f hf=>by have:=hS.hb f hf;rw [hm];omega)) g2 (a47 false t (qWc x)) (qNl 20 (.all false t (qWc x)))⟩
theorem zBs {L:List Int} (hL:Dk L) {k:Nat} (hk:H19 L k) (hkl:k≤9) {Z:Nat} {ls:List Fm} {g:List Ty} {hs:List Fm} {a:Nat} (hS:S19 Z ls g hs) (hZ:Z+cm (k+1)≤281474976710656) (ha:a≤L.length) (hg:g.length<10) (hh:hs.length<10) {b:Nat} (hb:b≤L.length) (gv:O 17 [.loc 0 0,.pv (num 17)] [(0,dk L a)] (.pv (num 14)) [(0,dk L b)]):∃ (p:Pf) (b:Nat),PG (cp (k+1)) (Z+cm (k+1)) p∧b≤L.length∧M19 L ls g hs (k+1) a p b:=by
 have hm:=qQc
 have hbg:=qQh
 have e20:M20=1048576:=rfl
 have eW:=qCl
 have hz1:=hS.z
 have hgl:=hS.gl
 have hhl:=hS.hl
 have e1:cp (k+1)=2 * cp k+10000:=rfl
 have e2:cm (k+1)=2 * cm k+W37+4 * M20:=rfl
 have e3:=qVk k
 have gs:=qVm (a:=k+1) (by omega) (by omega)
 have b1:ltI (.ofNat (g.map Ty.c).length) (.ofNat 10)=true:=qQy (by simpa using hg)
 have b2:ltI (.ofNat (hs.map Fm.c).length) (.ofNat 10)=true:=qQy (by simpa using hh)
 obtain⟨t,c,zt,hc,g1⟩:=a37 hL 1 (by omega) hb
 have zt:t.size≤3:=zt
 obtain⟨p,d,q1,hd,g2⟩:=hk (Z+1) ls (g++[t]) (qX6 hs) c (hS.below zt hg) (by omega) hc
 have:=q1.cnt;have:=q1.tsz;have:=q1.mx
 exact⟨.all true t p,d,⟨by simp only [Pf.cnt,Fm.cnt,qQt,qQu,Tm.cnt];omega,by simp only [Pf.tsz,Fm.tsz,qQv,qQ7,Tm.tsz,Ty.size];omega,by simp only [Pf.mx,Fm.mx,Tm.mx];omega⟩,hd,o9 1 [(36,.Y),(43,.G),(49,.G),(52,.D L b (.pv (num 14))),(354,.D L c (.pv t.p)),(361,.r (qJs (g++[t]) (qX6 hs))),(363,.z k),(364,.D L d (.pv p.p)),(365,.r (Pf.all true t p).p)] a42 b1 b2 gv g1 (a48 g hs t (by omega) (by omega) (fun f hf=>by have:=hS.hb f hf;rw [hm];omega)) gs g2 (a47 true t p)⟩
theorem zBt {L:List Int} (hL:Dk L) {k:Nat} (hk:H19 L k) (hkl:k≤9) {Z:Nat} {ls:List Fm} {g:List Ty} {hs:List Fm} {a:Nat} (hS:S19 Z ls g hs) (hZ:Z+cm (k+1)≤281474976710656) (ha:a≤L.length) (hg:g.length<10) (hh:hs.length<10) {b:Nat} (hb:b≤L.length) (gv:O 17 [.loc 0 0,.pv (num 17)] [(0,dk L a)] (.pv (num 15)) [(0,dk L b)]):∃ (p:Pf) (b:Nat),PG (cp (k+1)) (Z+cm (k+1)) p∧b≤L.length∧M19 L ls g hs (k+1) a p b:=by
 have hm:=qQc
 have hbg:=qQh
 have e20:M20=1048576:=rfl
 have eW:=qCl
 have hz1:=hS.z
 have hgl:=hS.gl
 have hhl:=hS.hl
 have e1:cp (k+1)=2 * cp k+10000:=rfl
 have e2:cm (k+1)=2 * cm k+W37+4 * M20:=rfl
 have e3:=qVk k
 have gs:=qVm (a:=k+1) (by omega) (by omega)
 have b1:ltI (.ofNat (g.map Ty.c).length) (.ofNat 10)=true:=qQy (by simpa using hg)
 have b2:ltI (.ofNat (hs.map Fm.c).length) (.ofNat 10)=true:=qQy (by simpa using hh)
 obtain⟨t,c,zt,hc,g1⟩:=a37 hL 1 (by omega) hb
 have zt:t.size≤3:=zt
 obtain⟨x,c0,qx,hc0,gx⟩:=tm1 hL (t:=t) (g:=g) zt hS.gs (by omega) hc
 obtain⟨p,d,q1,hd,g2⟩:=hk (Z+1) ls (g++[t]) (qX6 hs) c0 (hS.below zt hg) (by omega) hc0
 have:=q1.cnt;have:=q1.tsz;have:=q1.mx
 have:=qx.cnt;have:=qx.tsz;have:=qx.mx
 exact⟨.ins true x (.all true t p),d,⟨by simp only [Pf.cnt,Fm.cnt,qQt,qQu,Tm.cnt];omega,by simp only [Pf.tsz,Fm.tsz,qQv,qQ7,Tm.tsz,Ty.size];omega,by simp only [Pf.mx,Fm.mx,Tm.mx];omega⟩,hd,o11 1 [(36,.Y),(43,.G),(49,.G),(52,.D L b (.pv (num 15))),(369,.D L c (.pv t.p)),(374,.D L c0 (.pv x.p)),(381,.r (qJs (g++[t]) (qX6 hs))),(383,.z k),(384,.D L d (.pv p.p)),(385,.r (Pf.all true t p).p),(386,.r (Pf.ins true x (.all true t p)).p)] a42 b1 b2 gv g1 gx (a48 g hs t (by omega) (by omega) (fun f hf=>by have:=hS.hb f hf;rw [hm];omega)) gs g2 (a47 true t p) (a49 true x (.all true t p))⟩
theorem zBu {L:List Int} (hL:Dk L) {k:Nat} (hk:H19 L k) (hkl:k≤9) {Z:Nat} {ls:List Fm} {g:List Ty} {hs:List Fm} {a:Nat} (hS:S19 Z ls g hs) (hZ:Z+cm (k+1)≤281474976710656) (ha:a≤L.length) (hg:g.length<10) (hh:hs.length<10) {b:Nat} (hb:b≤L.length) (gv:O 17 [.loc 0 0,.pv (num 17)] [(0,dk L a)] (.pv (num 16)) [(0,dk L b)]):∃ (p:Pf) (b:Nat),PG (cp (k+1)) (Z+cm (k+1)) p∧b≤L.length∧M19 L ls g hs (k+1) a p b:=by
 have hm:=qQc
 have hbg:=qQh
 have e20:M20=1048576:=rfl
 have eW:=qCl
 have hz1:=hS.z
 have hgl:=hS.gl
 have hhl:=hS.hl
 have e1:cp (k+1)=2 * cp k+10000:=rfl
 have e2:cm (k+1)=2 * cm k+W37+4 * M20:=rfl
 have e3:=qVk k
 have gs:=qVm (a:=k+1) (by omega) (by omega)
 have b1:ltI (.ofNat (g.map Ty.c).length) (.ofNat 10)=true:=qQy (by simpa using hg)
 have b2:ltI (.ofNat (hs.map Fm.c).length) (.ofNat 10)=true:=qQy (by simpa using hh)
 obtain⟨w,c,hw,hc,gw⟩:=nx hL hb (n:=4) (by omega) (by omega)
 obtain⟨x,d,q,hd,gx⟩:=tm1 hL (t:=.nat) (g:=g) (by decide) hS.gs (by omega) hc
 have cx:=q.cnt
 have mx:=q.mx
 have sx:=q.tsz
 rcases w with _|_|w
 ·cases hs with
  | nil=>exact⟨.refl x,d,⟨by simp only [Pf.cnt];omega,by simp only [Pf.tsz];omega,by simp only [Pf.mx];omega⟩,hd,o7 1 [(36,.Y),(43,.G),(49,.G),(52,.D L b (.pv (num 16))),(388,.D L c (.pv (num 0))),(415,.D L d (.pv x.p)),(416,.r (Pf.refl x).p)] a42 b1 b2 gv gw gx (a21 x)⟩
  | cons f r =>
   have hr:=hS.hl
   obtain⟨i,e,hi,he,gi⟩:=nx hL hc (n:=((f::r).map Fm.c).length) (by simp) (by simp at hr ⊢;omega)
   exact⟨.leaf false i,e,⟨by simp only [Pf.cnt];omega,Nat.zero_le _,Nat.zero_le _⟩,he,o7 1 [(36,.Y),(43,.G),(49,.G),(52,.D L b (.pv (num 16))),(388,.D L c (.pv (num 0))),(399,.D L e (.pv (num i))),(400,.r (Pf.leaf false i).p)] a42 b1 b2 gv gw gi (a56 i)⟩
 ·cases ls with
  | nil=>exact⟨.refl x,d,⟨by simp only [Pf.cnt];omega,by simp only [Pf.tsz];omega,by simp only [Pf.mx];omega⟩,hd,o7 1 [(36,.Y),(43,.G),(49,.G),(52,.D L b (.pv (num 16))),(388,.D L c (.pv (num 1))),(415,.D L d (.pv x.p)),(416,.r (Pf.refl x).p)] a42 b1 b2 gv gw gx (a21 x)⟩
  | cons f r =>
   have hr:=hS.ll
   obtain⟨i,e,hi,he,gi⟩:=nx hL hc (n:=((f::r).map Fm.c).length) (by simp) (by simp at hr ⊢;omega)
   exact⟨.leaf true i,e,⟨by simp only [Pf.cnt];omega,Nat.zero_le _,Nat.zero_le _⟩,he,o6 1 [(36,.Y),(43,.G),(49,.G),(52,.D L b (.pv (num 16))),(388,.D L c (.pv (num 1))),(409,.D L e (.pv (num i)))] a42 b1 b2 gv gw gi⟩
 ·exact⟨.refl x,d,⟨by simp only [Pf.cnt];omega,by simp only [Pf.tsz];omega,by simp only [Pf.mx];omega⟩,hd,o7 1 [(36,.Y),(43,.G),(49,.G),(52,.D L b (.pv (num 16))),(388,.D L c (.pv (num (w+2)))),(415,.D L d (.pv x.p)),(416,.r (Pf.refl x).p)] a42 b1 b2 gv gw gx (a21 x)⟩
theorem zFx (H:MF) {L:List Int} (hL:Dk L) {k:Nat} (hk:H19 L k) (Ho:H54 L k) (hkl:k≤9):H19 L (k+1):=by
 intro Z ls g hs a hS hZ ha
 have hm:=qQc
 by_cases hg:g.length<10
 ·by_cases hh:hs.length<10
  ·obtain⟨w,b,hw,hb,gv⟩:=nx hL ha (n:=17) (by omega) (by omega)
   rcases w with _|_|_|_|_|_|_|_|_|_|_|_|_|_|_|_|_|w
   ·exact zFn hL hk hkl hS hZ ha hg hh hb gv
   ·exact zFo hL hk hkl hS hZ ha hg hh hb gv
   ·exact zFp hL hk hkl hS hZ ha hg hh hb gv
   ·exact zFq H hL hk hkl hS hZ ha hg hh hb gv
   ·exact zFr hL hk hkl hS hZ ha hg hh hb gv
   ·exact zFs hL hk hkl hS hZ ha hg hh hb gv
   ·exact zFt hL hk hkl hS hZ ha hg hh hb gv
   ·exact zFu H hL hk hkl hS hZ ha hg hh hb gv
   ·exact zFv hL hk Ho hkl hS hZ ha hg hh hb gv
   ·exact zFw H hL hk hkl hS hZ ha hg hh hb gv
   ·exact zBo H hL hk hkl hS hZ ha hg hh hb gv
   ·exact zBp hL hk hkl hS hZ ha hg hh hb gv
   ·exact zBq hL hk hkl hS hZ ha hg hh hb gv
   ·exact zBr hL hk hkl hS hZ ha hg hh hb gv
   ·exact zBs hL hk hkl hS hZ ha hg hh hb gv
   ·exact zBt hL hk hkl hS hZ ha hg hh hb gv
   ·exact zBu hL hk hkl hS hZ ha hg hh hb gv
   ·omega
  ·exact zFm hL hk hkl hS hZ ha hg hh
 ·exact zFl hL hk hkl hS hZ ha hg
section
variable {f:Nat} {args:List V} {objs:List (Nat × Ob)} {x:V} {objs':List (Nat × Ob)}
theorem o22 (m:Nat) (tp:Di) {H1 H2 H3 H4 H5 H6 H7 H8 H9 H10 H11 H12 H13 H14 H15 H16 H17 H18 H19 H20 H21 H22:Prop} (h1:H1) (h2:H2) (h3:H3) (h4:H4) (h5:H5) (h6:H6) (h7:H7) (h8:H8) (h9:H9) (h10:H10) (h11:H11) (h12:H12) (h13:H13) (h14:H14) (h15:H15) (h16:H16) (h17:H17) (h18:H18) (h19:H19) (h20:H20) (h21:H21) (h22:H22) (e:(H1∧H2∧H3∧H4∧H5∧H6∧H7∧H8∧H9∧H10∧H11∧H12∧H13∧H14∧H15∧H16∧H17∧H18∧H19∧H20∧H21∧H22∧(x,objs')=(x,objs'))=UO f args objs m tp x objs':=by kernel_rfl):O f args objs x objs':=ok m tp ⟨h1,h2,h3,h4,h5,h6,h7,h8,h9,h10,h11,h12,h13,h14,h15,h16,h17,h18,h19,h20,h21,h22,rfl⟩ e
end
theorem zLf (f:Fm):O 64 [.pv f.p] [] (.agg [.undef,.pv (num f.tk),.pv (.slice f.te),.pv (.slice f.ts),.pv (.slice f.es)]) []:=by
 have h:A 64 [f.p] f.p:=a64 f
 refine⟨h.direct,fun n hn=>by simp [Out.names,V.names,qQk] at hn,h.namesO,fun E w vs hB hv hR=>(h.calls E w vs hB hv hR).mono ?_⟩
 rintro e w' ⟨E',hd,v,he,hr⟩
 refine⟨E',hd,v,he,?_⟩
 have hr:RepP E'.H (.agg f.c) v:=hr
 simp only [RepP] at hr
 obtain⟨us,e1,e2,e3⟩:=hr
 refine⟨us,e1,e2,?_⟩
 match us,e3 with
 | [],e3=>exact e3.elim
 | u::us,e3 =>
  refine⟨trivial,?_⟩
  have e4:=e3.2
  match us,e4 with
  | [],e4=>exact e4.elim
  | u2::us,e4 =>
   refine⟨e4.1,?_⟩
   have e5:=e4.2
   match us,e5 with
   | [],e5=>exact e5.elim
   | u3::us,e5 =>
    refine⟨e5.1,?_⟩
    have e6:=e5.2
    match us,e6 with
    | [],e6=>exact e6.elim
    | u4::us,e6 =>
     refine⟨e6.1,?_⟩
     have e7:=e6.2
     match us,e7 with
     | [],e7=>exact e7.elim
     | u5::us,e7=>exact⟨e7.1,trivial⟩
abbrev qE (x:Tm):Fm:=.eq (x.sh 0 1) (.v 0)
abbrev qG6 (x:Tm):Pf:=.ex true (.q .exU .nat (qE x)) x (.refl x)
theorem zFy {L:List Int} (hL:Dk L) {k:Nat} (hk:H19 L k) (hkl:k≤9):H54 L k:=by
 intro Z ls g hs a hS hg hh hZ ha
 have hm:=qQc
 have hbg:=qQh
 have e20:M20=1048576:=rfl
 have eW:=qCl
 have hz1:=hS.z
 have hgl:=hS.gl
 have hhl:=hS.hl
 have e1:cp (k+1)=2 * cp k+10000:=rfl
 have e2:cm (k+1)=2 * cm k+W37+4 * M20:=rfl
 have e3:=qVk k
 have gs:=qVm (a:=k+1) (by omega) (by omega)
 obtain⟨x,b,qx,hb,g1⟩:=tm1 hL (t:=.nat) (g:=g) (by decide) hS.gs (by omega) ha
 have c1:=qx.cnt;have c2:=qx.tsz;have c3:=qx.mx
 have m1:=qKy 1 x 0
 have e5:(1:Int).toNat=1:=rfl
 have gu:=a50 x (by omega) (by rw [hm];omega)
 have hE:FBd (Z+1) (qE x):=⟨by simp only [Fm.cnt,qQu,Tm.cnt];omega,by simp only [Fm.tsz,qQ7,Tm.tsz];omega,by simp only [Fm.mx,Tm.mx];omega⟩
 obtain⟨w,c,hw,hc,gw⟩:=nx hL hb (n:=3) (by omega) (by omega)
 have gB:=a48 g hs .nat (by omega) (by omega) (fun f hf=>by have:=hS.hb f hf;rw [hm];omega)
 have gW:=a46 (g++[.nat]) (qX6 hs) (qE x) (by simp;omega)
 have S1:S19 (Z+1) ls (g++[.nat]) (qX6 hs++[qE x]):=(hS.below (t:=.nat) (by decide) hg).with hE (Nat.le_refl _) (by simpa using hh)
 obtain⟨q,d,qq,hd,g2⟩:=hk (Z+1) ls (g++[.nat]) (qX6 hs++[qE x]) c S1 (by omega) hc
 have d1:=qq.cnt;have d2:=qq.tsz;have d3:=qq.mx
 obtain⟨v,e,hv,he,gv⟩:=nx hL hd (n:=2) (by omega) (by omega)
 have bd:∀ (u:P2) (P Q:Pf),P.cnt≤800→P.tsz≤mid→P.mx≤Z+cm k+10→Q.cnt≤cp k+800→Q.tsz≤mid→Q.mx≤Z+cm k+10→PG (cp (k+1)) (Z+cm (k+1)) (.p2 u P Q):=fun u P Q b1 b2 b3 b4 b5 b6 =>
  ⟨by simp only [Pf.cnt];omega,by simp only [Pf.tsz];omega,by simp only [Pf.mx];omega⟩
 have bS:∀ (u:Bool) (kk:FQ),(Pf.ex u (.q kk .nat (qE x)) x (.refl x)).cnt≤800∧(Pf.ex u (.q kk .nat (qE x)) x (.refl x)).tsz≤mid∧(Pf.ex u (.q kk .nat (qE x)) x (.refl x)).mx≤Z+cm k+10:=fun u kk =>
  ⟨by simp only [Pf.cnt,Fm.cnt,qQu,Tm.cnt];omega,by simp only [Pf.tsz,Fm.tsz,qQ7,Tm.tsz,Ty.size];omega,by simp only [Pf.mx,Fm.mx,Tm.mx];omega⟩
 have bG:∀ (u:Bool) (kk:FQ),(Pf.ex u ((Fm.q kk .nat (qE x)).sh 0 1) (.v 0) (.leaf false 0)).cnt≤cp k+800∧(Pf.ex u ((Fm.q kk .nat (qE x)).sh 0 1) (.v 0) (.leaf false 0)).tsz≤mid∧(Pf.ex u ((Fm.q kk .nat (qE x)).sh 0 1) (.v 0) (.leaf false 0)).mx≤Z+cm k+10:=fun u kk=>by
  have m2:=qJ8 1 (Fm.q kk .nat (qE x)) 0
  have m3:(Fm.q kk .nat (qE x)).mx≤x.mx+1:=by simp only [Fm.mx,Tm.mx];omega
  exact⟨by simp only [Pf.cnt,qQt,Fm.cnt,qQu,Tm.cnt];omega,by simp only [Pf.tsz,qQv,Fm.tsz,qQ7,Tm.tsz,Ty.size];omega,by simp only [Pf.mx,Tm.mx];omega⟩
 have gF:∀ kk:FQ,A 53 [(Fm.q kk .nat (qE x)).p,num 0,.int 1] ((Fm.q kk .nat (qE x)).sh 0 1).p:=fun kk=>a53 _ 0 1 (by omega) (by omega) (by simp only [Fm.mx,Tm.mx];rw [hm];omega) (by simp only [Fm.cnt,qQu,Tm.cnt];omega)
 cases w with
 | zero =>
  have g9:A 49 [num 10,x.p,(Pf.refl x).p] (pn 10 [x.c] [] [(Pf.refl x).c]):=zD6 10 x (.refl x)
  have gq:=zLf (.q .ex .nat (qE x))
  cases v with
  | zero=>exact⟨.p2 .exUE (qG6 x) (.ex true ((Fm.q .exU .nat (qE x)).sh 0 1) (.v 0) (.leaf false 0)),e,(bd .exUE (qG6 x) (.ex true ((Fm.q .exU .nat (qE x)).sh 0 1) (.v 0) (.leaf false 0)) (bS true .exU).1 (bS true .exU).2.1 (bS true .exU).2.2 (bG true .exU).1 (bG true .exU).2.1 (bG true .exU).2.2),he,o22 1 [(16,.n [(7,.Y),(12,.D L b (.pv x.p)),(15,.r (x.sh 0 1).p),(16,.r (Tm.v 0).p),(17,.r (qE x).p),(18,.r (Fm.q .ex .nat (qE x)).p),(21,.r (Pf.refl x).p),(22,.n [(13,.r (pn 10 [x.c] [] [(Pf.refl x).c])),(15,.o [] [] (.agg [.undef,.pv (num (Fm.q .ex .nat (qE x)).tk),.pv (.slice (Fm.q .ex .nat (qE x)).te),.pv (.slice (Fm.q .ex .nat (qE x)).ts),.pv (.slice (Fm.q .ex .nat (qE x)).es)]))])]),(18,.D L c (.pv (num 0))),(300005,.f 12 [(Fm.q .exU .nat (qE x)).c]),(35,.Y),(37,.r (qJs (g++[.nat]) (qX6 hs))),(39,.r (qJs (g++[.nat]) (qX6 hs++[qE x]))),(41,.z k),(42,.D L d (.pv q.p)),(44,.D L e (.pv (num 0))),(50,.r ((Fm.q .exU .nat (qE x)).sh 0 1).p),(54,.r (Tm.v 0).p),(55,.r (Pf.leaf false 0).p),(56,.r (Pf.ex true ((Fm.q .exU .nat (qE x)).sh 0 1) (.v 0) (.leaf false 0)).p),(61,.r (Pf.p2 .exUE (qG6 x) (.ex true ((Fm.q .exU .nat (qE x)).sh 0 1) (.v 0) (.leaf false 0))).p)] a42 g1 gu (a51 0) (a43 (x.sh 0 1) (.v 0)) (a40 .ex .nat (qE x)) (a21 x) g9 gq gw (rfl:pvE [(Fm.q .exU .nat (qE x)).c]=pvE [(Fm.q .exU .nat (qE x)).c]) a42 gB gW gs g2 gv (gF .exU) (a51 0) (a56 0) (a52 true ((Fm.q .exU .nat (qE x)).sh 0 1) (.v 0) (.leaf false 0)) (qCk 15 (qG6 x) (.ex true ((Fm.q .exU .nat (qE x)).sh 0 1) (.v 0) (.leaf false 0)))⟩
  | succ v=>exact⟨.p2 .exUE (qG6 x) q,e,(bd .exUE (qG6 x) q (bS true .exU).1 (bS true .exU).2.1 (bS true .exU).2.2 (by omega) d2 (by omega)),he,o18 1 [(16,.n [(7,.Y),(12,.D L b (.pv x.p)),(15,.r (x.sh 0 1).p),(16,.r (Tm.v 0).p),(17,.r (qE x).p),(18,.r (Fm.q .ex .nat (qE x)).p),(21,.r (Pf.refl x).p),(22,.n [(13,.r (pn 10 [x.c] [] [(Pf.refl x).c])),(15,.o [] [] (.agg [.undef,.pv (num (Fm.q .ex .nat (qE x)).tk),.pv (.slice (Fm.q .ex .nat (qE x)).te),.pv (.slice (Fm.q .ex .nat (qE x)).ts),.pv (.slice (Fm.q .ex .nat (qE x)).es)]))])]),(18,.D L c (.pv (num 0))),(300005,.f 12 [(Fm.q .exU .nat (qE x)).c]),(35,.Y),(37,.r (qJs (g++[.nat]) (qX6 hs))),(39,.r (qJs (g++[.nat]) (qX6 hs++[qE x]))),(41,.z k),(42,.D L d (.pv q.p)),(44,.D L e (.pv (num (v+1)))),(61,.r (Pf.p2 .exUE (qG6 x) q).p)] a42 g1 gu (a51 0) (a43 (x.sh 0 1) (.v 0)) (a40 .ex .nat (qE x)) (a21 x) g9 gq gw (rfl:pvE [(Fm.q .exU .nat (qE x)).c]=pvE [(Fm.q .exU .nat (qE x)).c]) a42 gB gW gs g2 gv (qCk 15 (qG6 x) q)⟩
 | succ w =>
  cases v with
  | zero=>exact⟨.p2 .exE (qWc x) (.ex false ((Fm.q .ex .nat (qE x)).sh 0 1) (.v 0) (.leaf false 0)),e,(bd .exE (qWc x) (.ex false ((Fm.q .ex .nat (qE x)).sh 0 1) (.v 0) (.leaf false 0)) (bS false .ex).1 (bS false .ex).2.1 (bS false .ex).2.2 (bG false .ex).1 (bG false .ex).2.1 (bG false .ex).2.2),he,o20 1 [(16,.n [(7,.Y),(12,.D L b (.pv x.p)),(15,.r (x.sh 0 1).p),(16,.r (Tm.v 0).p),(17,.r (qE x).p),(18,.r (Fm.q .ex .nat (qE x)).p),(21,.r (Pf.refl x).p),(22,.r (qWc x).p)]),(18,.D L c (.pv (num (w+1)))),(35,.Y),(37,.r (qJs (g++[.nat]) (qX6 hs))),(39,.r (qJs (g++[.nat]) (qX6 hs++[qE x]))),(41,.z k),(42,.D L d (.pv q.p)),(44,.D L e (.pv (num 0))),(50,.r ((Fm.q .ex .nat (qE x)).sh 0 1).p),(54,.r (Tm.v 0).p),(55,.r (Pf.leaf false 0).p),(56,.r (Pf.ex false ((Fm.q .ex .nat (qE x)).sh 0 1) (.v 0) (.leaf false 0)).p),(61,.r (Pf.p2 .exE (qWc x) (.ex false ((Fm.q .ex .nat (qE x)).sh 0 1) (.v 0) (.leaf false 0))).p)] a42 g1 gu (a51 0) (a43 (x.sh 0 1) (.v 0)) (a40 .ex .nat (qE x)) (a21 x) (a52 false (.q .ex .nat (qE x)) x (.refl x)) gw a42 gB gW gs g2 gv (gF .ex) (a51 0) (a56 0) (a52 false ((Fm.q .ex .nat (qE x)).sh 0 1) (.v 0) (.leaf false 0)) (qCk 11 (qWc x) (.ex false ((Fm.q .ex .nat (qE x)).sh 0 1) (.v 0) (.leaf false 0)))⟩
  | succ v=>exact⟨.p2 .exE (qWc x) q,e,(bd .exE (qWc x) q (bS false .ex).1 (bS false .ex).2.1 (bS false .ex).2.2 (by omega) d2 (by omega)),he,o16 1 [(16,.n [(7,.Y),(12,.D L b (.pv x.p)),(15,.r (x.sh 0 1).p),(16,.r (Tm.v 0).p),(17,.r (qE x).p),(18,.r (Fm.q .ex .nat (qE x)).p),(21,.r (Pf.refl x).p),(22,.r (qWc x).p)]),(18,.D L c (.pv (num (w+1)))),(35,.Y),(37,.r (qJs (g++[.nat]) (qX6 hs))),(39,.r (qJs (g++[.nat]) (qX6 hs++[qE x]))),(41,.z k),(42,.D L d (.pv q.p)),(44,.D L e (.pv (num (v+1)))),(61,.r (Pf.p2 .exE (qWc x) q).p)] a42 g1 gu (a51 0) (a43 (x.sh 0 1) (.v 0)) (a40 .ex .nat (qE x)) (a21 x) (a52 false (.q .ex .nat (qE x)) x (.refl x)) gw a42 gB gW gs g2 gv (qCk 11 (qWc x) q)⟩
theorem h19 (H:MF) {L:List Int} (hL:Dk L):∀ k,k≤9→H19 L k
 | 0,_=>zFk hL
 | k+1,h=>zFx H hL (h19 H hL k (by omega)) (zFy hL (h19 H hL k (by omega)) (by omega)) (by omega)
open Go.Lg
set_option maxRecDepth 100000
theorem a5 (L:List Int):A 5 [.slice (L.map zc1)] (.bool (decide (L.length≤500))):=by
 by_cases h:L.length≤500
 ·have e:(!ltI (.ofNat 500) (.ofNat (L.map zc1).length))=true:=by rw [qZv (by simpa using h)];rfl
  rw [decide_eq_true h]
  exact f1 [(5,.G)] e
 ·have e:(!ltI (.ofNat 500) (.ofNat (L.map zc1).length))=false:=by rw [qQy (by simpa using h)];rfl
  rw [decide_eq_false h]
  exact f1 [(5,.H)] e
abbrev PR.v (r:PR):PV:=.agg [num r.k,num r.tk,.slice r.te,.slice r.ts,.slice r.es,qQl r.u]
def RQ (ls:List Fm) (g:List Ty) (hs:List Fm) (p:Pf) (r:PR):Prop:=∀ f u,r = .ok f u→SQ2 ls g hs∧p.cnt≤16384∧(∀ v,us (ls.map Fm.sp) (hs.map Fm.sp) p v→v∈u)∧u.length≤16384
theorem ask (H:MF) {Z k:Nat} {ls:List Fm} {g:List Ty} {hs:List Fm} {p:Pf} (hS:S19 Z ls g hs) (hp:PG (cp k) (Z+cm k) p) (hk:k≤10) (hz:Z+cm k≤281474976710656):∃ r:PR,A 20 [fms ls,qJs g hs,p.p] r.p∧RQ ls g hs p r:=by
 have hm:=qQc
 have hbg:=qQh
 have e2:=qNt k hk
 have h1:=hS.ll
 have h2:=hS.gl
 have h3:=hS.hl
 have hc:cmx=1125899902742528:=rfl
 have e3:qQf=8388608:=rfl
 obtain⟨r,g1,q⟩:=a20 H (X:=Z+cm k) (ls:=ls) (g:=g) (hs:=hs) (p:=p) ⟨fun f hf=>by have:=hS.lb f hf;exact⟨by omega,this.2.1,by omega⟩,fun f hf=>by have:=hS.hb f hf;exact⟨by omega,this.2.1,by omega⟩,fun s hs'=>by have:=hS.gs s hs';omega,by omega,by omega,by omega,by have:=hp.cnt;omega,hp.tsz,hp.mx,by rw [hc];omega⟩
 exact⟨r,g1,fun f u e=>by
  obtain⟨k1,k2,_,k4⟩:=q f u e
  exact⟨k1,k2,k4⟩⟩
theorem a9 (H:MF) {L:List Int} (hL:Dk L) {ls:List Fm} {g:List Ty} {hs:List Fm} {a:Nat} (hS:S19 M20 ls g hs) (ha:a≤L.length):∃ (p:Pf) (r:PR) (b:Nat),((∃ f u,r = .ok f u) ∨ ∃ t,p = .refl t∧t.cnt≤10)∧PG (cp 3) (M20+cm 3) p∧RQ ls g hs p r∧b≤L.length ∧
  O 9 [.loc 0 0,.pv (fms ls),.pv (qJs g hs),.pv (num 3)] [(0,dk L a)] (.pv (.tuple [p.p,r.v])) [(0,dk L b)]:=by
 have hm:=qQc
 have hz:M20+cm 3≤281474976710656:=by decide
 have h3:=h19 H hL 3 (by omega)
 obtain⟨p1,b1,q1,hb1,g1⟩:=h3 M20 ls g hs a hS hz ha
 obtain⟨r1,k1,z1⟩:=ask H hS q1 (by omega) hz
 cases r1 with
 | ok f u=>exact⟨p1,.ok f u,b1,.inl ⟨f,u,rfl⟩,q1,z1,hb1,o2 1 [(22,.D L b1 (.pv p1.p)),(27,.r (PR.ok f u).p)] g1 k1⟩
 | er n1 =>
 obtain⟨p2,b2,q2,hb2,g2⟩:=h3 M20 ls g hs b1 hS hz hb1
 obtain⟨r2,k2,z2⟩:=ask H hS q2 (by omega) hz
 cases r2 with
 | ok f u=>exact⟨p2,.ok f u,b2,.inl ⟨f,u,rfl⟩,q2,z2,hb2,o4 1 [(22,.D L b1 (.pv p1.p)),(27,.r (PR.er n1).p),(22,.D L b2 (.pv p2.p)),(27,.r (PR.ok f u).p)] g1 k1 g2 k2⟩
 | er n2 =>
 obtain⟨p3,b3,q3,hb3,g3⟩:=h3 M20 ls g hs b2 hS hz hb2
 obtain⟨r3,k3,z3⟩:=ask H hS q3 (by omega) hz
 cases r3 with
 | ok f u=>exact⟨p3,.ok f u,b3,.inl ⟨f,u,rfl⟩,q3,z3,hb3,o6 1 [(22,.D L b1 (.pv p1.p)),(27,.r (PR.er n1).p),(22,.D L b2 (.pv p2.p)),(27,.r (PR.er n2).p),(22,.D L b3 (.pv p3.p)),(27,.r (PR.ok f u).p)] g1 k1 g2 k2 g3 k3⟩
 | er n3 =>
 obtain⟨p4,b4,q4,hb4,g4⟩:=h3 M20 ls g hs b3 hS hz hb3
 obtain⟨r4,k4,z4⟩:=ask H hS q4 (by omega) hz
 cases r4 with
 | ok f u=>exact⟨p4,.ok f u,b4,.inl ⟨f,u,rfl⟩,q4,z4,hb4,o8 1 [(22,.D L b1 (.pv p1.p)),(27,.r (PR.er n1).p),(22,.D L b2 (.pv p2.p)),(27,.r (PR.er n2).p),(22,.D L b3 (.pv p3.p)),(27,.r (PR.er n3).p),(22,.D L b4 (.pv p4.p)),(27,.r (PR.ok f u).p)] g1 k1 g2 k2 g3 k3 g4 k4⟩
 | er n4 =>
 obtain⟨y,b5,hy,hb5,g5⟩:=nx hL hb4 (n:=4) (by omega) (by omega)
 have c5:(qJr y).cnt≤10:=by
  rcases y with _|_|_|_|y
  ·decide
  ·decide
  ·decide
  ·decide
  ·omega
 have qr:PG (cp 3) (M20+cm 3) (.refl (qJr y)):=by
  rcases y with _|_|_|_|y
  ·exact⟨by decide,by decide,by decide⟩
  ·exact⟨by decide,by decide,by decide⟩
  ·exact⟨by decide,by decide,by decide⟩
  ·exact⟨by decide,by decide,by decide⟩
  ·omega
 obtain⟨r5,k5,z5⟩:=ask H hS qr (by omega) hz
 cases r5 with
 | ok f u=>exact⟨.refl (qJr y),.ok f u,b5,.inr ⟨_,rfl,c5⟩,qr,z5,hb5,o12 1 [(22,.D L b1 (.pv p1.p)),(27,.r (PR.er n1).p),(22,.D L b2 (.pv p2.p)),(27,.r (PR.er n2).p),(22,.D L b3 (.pv p3.p)),(27,.r (PR.er n3).p),(22,.D L b4 (.pv p4.p)),(27,.r (PR.er n4).p),(36,.D L b5 (.pv (num y))),(37,.r (qJr y).p),(38,.r (Pf.refl (qJr y)).p),(43,.r (PR.ok f u).p)] g1 k1 g2 k2 g3 k3 g4 k4 g5 (a22 hy) (a21 (qJr y)) k5⟩
 | er n5=>exact⟨.refl (qJr y),.er n5,b5,.inr ⟨_,rfl,c5⟩,qr,z5,hb5,o12 1 [(22,.D L b1 (.pv p1.p)),(27,.r (PR.er n1).p),(22,.D L b2 (.pv p2.p)),(27,.r (PR.er n2).p),(22,.D L b3 (.pv p3.p)),(27,.r (PR.er n3).p),(22,.D L b4 (.pv p4.p)),(27,.r (PR.er n4).p),(36,.D L b5 (.pv (num y))),(37,.r (qJr y).p),(38,.r (Pf.refl (qJr y)).p),(43,.r (PR.er n5).p)] g1 k1 g2 k2 g3 k3 g4 k4 g5 (a22 hy) (a21 (qJr y)) k5⟩
theorem tm2 {L:List Int} (hL:Dk L) {t:Ty} {a:Nat} (ht:t.size≤64) (ha:a≤L.length):∃ (x:Tm) (b:Nat),(x.tsz≤mid∧x.cnt≤mid)∧b≤L.length∧M28 L [] t (num 2) a x b:=by
 have hm:=qQc
 obtain⟨x,b,q,hb,h⟩:=h28 hL (S:=64) (by omega) (by omega) 2 t [] a ht (by simp) (by simp) ha
 have e:tb 64 2=3104:=rfl
 exact⟨x,b,⟨by have:=q.tsz;omega,by have:=q.cnt;omega⟩,hb,h⟩
theorem tm3 {L:List Int} (hL:Dk L) {f:Fm} (hf:FS 0 f) {a:Nat} (ha:a≤L.length):∃ (T:TR) (x:Tm) (b:Nat),A 26 [f.p] T.p∧(x.tsz≤mid∧x.cnt≤mid)∧b≤L.length∧M28 L [] (match T with | .er _ => .unit | .ok t=>t) (num 2) a x b:=by
 have hm:=qQc
 have hbg:=qQh
 have c1:=hf.cnt
 have c2:=hf.tsz
 obtain⟨T,g1,q,_⟩:=a26 f (by omega) (by omega)
 cases T with
 | er n =>
  obtain⟨x,b,q2,hb,h⟩:=tm2 hL (t:=.unit) (by decide) ha
  exact⟨.er n,x,b,g1,q2,hb,h⟩
 | ok t =>
  obtain⟨x,b,q2,hb,h⟩:=tm2 hL (t:=t) q ha
  exact⟨.ok t,x,b,g1,q2,hb,h⟩
theorem a11 {L:List Int} (hL:Dk L) {ls:List Fm} (hl:ls.length≤2) (hf:∀ f∈ls,FS 0 f) {a:Nat} (ha:a≤L.length):∃ (tl:List Tm) (b:Nat),(∀ t∈tl,t.tsz≤mid∧t.cnt≤mid)∧b≤L.length∧O 11 [.loc 0 0,.pv (fms ls)] [(0,dk L a)] (.pv (row tl)) [(0,dk L b)]:=by
 match ls,hl,hf with
 | [],_,_=>exact⟨[],a,by simp,ha,o0 1 []⟩
 | [f],_,hf =>
  obtain⟨T,x,b,g1,q,hb,g2⟩:=tm3 hL (hf f (by simp)) ha
  cases T with
  | er n=>exact⟨[x],b,by simpa using q,hb,o3 1 [(18,.r (TR.er n).p),(23,.r Ty.unit.p),(27,.D L b (.pv x.p))] g1 a27 g2⟩
  | ok t=>exact⟨[x],b,by simpa using q,hb,o2 1 [(18,.r (TR.ok t).p),(27,.D L b (.pv x.p))] g1 g2⟩
 | [f,h],_,hf =>
  obtain⟨T,x,b,g1,q,hb,g2⟩:=tm3 hL (hf f (by simp)) ha
  obtain⟨U,y,c,k1,p,hc,k2⟩:=tm3 hL (hf h (by simp)) hb
  have hq:∀ t∈[x,y],t.tsz≤mid∧t.cnt≤mid:=by simp;exact⟨q,p⟩
  cases T with
  | er n=>cases U with
   | er m=>exact⟨[x,y],c,hq,hc,o6 1 [(18,.r (TR.er n).p),(23,.r Ty.unit.p),(27,.D L b (.pv x.p)),(18,.r (TR.er m).p),(23,.r Ty.unit.p),(27,.D L c (.pv y.p))] g1 a27 g2 k1 a27 k2⟩
   | ok u=>exact⟨[x,y],c,hq,hc,o5 1 [(18,.r (TR.er n).p),(23,.r Ty.unit.p),(27,.D L b (.pv x.p)),(18,.r (TR.ok u).p),(27,.D L c (.pv y.p))] g1 a27 g2 k1 k2⟩
  | ok t=>cases U with
   | er m=>exact⟨[x,y],c,hq,hc,o5 1 [(18,.r (TR.ok t).p),(27,.D L b (.pv x.p)),(18,.r (TR.er m).p),(23,.r Ty.unit.p),(27,.D L c (.pv y.p))] g1 g2 k1 a27 k2⟩
   | ok u=>exact⟨[x,y],c,hq,hc,o4 1 [(18,.r (TR.ok t).p),(27,.D L b (.pv x.p)),(18,.r (TR.ok u).p),(27,.D L c (.pv y.p))] g1 g2 k1 k2⟩
 | f::h::k::r,hl,_=>simp at hl
def MU:Prop:=∀ t:Tm,t.chk=0→t.mx≤mid→∃ u:List Nat,A 13 [t.p] (.tuple [qQl u,num 0])∧(∀ v∈u,t.occ v≠0∧v≤mid)∧u.length≤mid
abbrev pvc (q:PR):List PV:=[num q.k,num q.tk,.slice q.te,.slice q.ts,.slice q.es,qQl q.u]
abbrev kI3:Kp:=⟨[7,13,14,16,17,69,70,71,79,80,81],[3],4,[]⟩
abbrev sI3 (X:PR) (m:Nat) (u:List Nat) (k v:Nat) (f:Bool) (us:List Nat) (i:Nat):IS:=st [(7,.loc 3 0),(13,.pv (num 0)),(14,.pv (num m)),(16,.pv (num v)),(17,.pv (.bool f)),(69,.pv (qQl u)),(70,.pv (num (u.map ic).length)),(71,.pv (num k)),(79,.pv (qQl us)),(80,.pv (num (us.map ic).length)),(81,.pv (num i))] [(3,bx (pvc X))] 4 []
abbrev eI3 (X:PR) (m:Nat) (u:List Nat) (k:Nat) (f:Bool):IS:=st [(7,.loc 3 0),(13,.pv (num 0)),(14,.pv (num m)),(17,.pv (.bool f)),(69,.pv (qQl u)),(70,.pv (num (u.map ic).length)),(71,.pv (num k))] [(3,bx (pvc X))] 4 []
abbrev kE3:Kp:=⟨[7,13,14,17,69,70,71],[3],4,[]⟩
theorem zHl (X:PR) (m:Nat) (u:List Nat) (k v:Nat) {us:List Nat} (hl:us.length≤big):∀ (r:List Nat) (i:Nat),us.drop i=r→Lp 3 1 0 (sI3 X m u k v true us i) (.exit 2) (eI3 X m u k true)
 | [],i,h=>x1 [(82,.H)] kE3 (show ltI (.ofNat i) (.ofNat (us.map ic).length)=false from qZv (by simpa using qZp h))
 | w::r,i,h=>by
  have hb:=qQh
  obtain⟨d1,d2,d3⟩:=qZo h
  exact n4 [(82,.G),(83,.i (ic w)),(93,.z (i+1))] kI3 (show ltI (.ofNat i) (.ofNat (us.map ic).length)=true from qQy (by simpa using d2)) (qQi d1 qVx) (qQ9 (a:=i) (b:=1) (by omega)) (zHl X m u k v hl r (i+1) d3)
theorem zHm (X:PR) (m:Nat) (u:List Nat) (k v:Nat) (hv:m≤v) (hv2:v≤big) {us:List Nat} (hl:us.length≤mid):∀ (r:List Nat) (i:Nat),us.drop i=r→v-m∈r→Lp 3 1 0 (sI3 X m u k v false us i) (.exit 2) (eI3 X m u k true)
 | [],i,h,hm=>by cases hm
 | w::r,i,h,hw=>by
  have hb:=qQh
  have hm:=qQc
  obtain⟨d1,d2,d3⟩:=qZo h
  have g1:ltI (.ofNat i) (.ofNat (us.map ic).length)=true:=qQy (by simpa using d2)
  have g2:inB (Int.ofNat v - .ofNat m)=true∧Int.ofNat v - .ofNat m = .ofNat (v-m):=by
   have e:Int.ofNat v - .ofNat m = .ofNat (v-m):=by simp;omega
   exact⟨by rw [e];exact inN (by omega),e⟩
  have g3:=qQ9 (a:=i) (b:=1) (by omega)
  by_cases e:w=v-m
  ·exact n6 [(82,.G),(83,.i (ic w)),(90,.z (v-m)),(91,.G),(93,.z (i+1))] kI3 g1 (qQi d1 qVx) g2 (show eqI (.ofNat w) (.ofNat (v-m))=true by rw [e];exact qUb _) g3 (zHl X m u k v (by omega) r (i+1) d3)
  ·have hr:v-m∈r:=by
    rcases List.mem_cons.1 hw with h|h
    ·exact absurd h.symm e
    ·exact h
   exact n6 [(82,.G),(83,.i (ic w)),(90,.z (v-m)),(91,.H),(93,.z (i+1))] kI3 g1 (qQi d1 qVx) g2 (qNh e) g3 (zHm X m u k v hv hv2 hl r (i+1) d3 hr)
abbrev kO3:Kp:=⟨[7,13,14,69,70,71],[3],4,[]⟩
abbrev sO3 (X:PR) (m:Nat) (u:List Nat) (k:Nat):IS:=st [(7,.loc 3 0),(13,.pv (num 0)),(14,.pv (num m)),(69,.pv (qQl u)),(70,.pv (num (u.map ic).length)),(71,.pv (num k))] [(3,bx (pvc X))] 4 []
theorem zHn (q:PR) (m:Nat) {u:List Nat} (hu:u.length≤mid) (hl:q.u.length≤mid) (hv:∀ v∈u,v≤mid∧(v<m∨v-m∈q.u)):∀ (r:List Nat) (k:Nat),u.drop k=r →
  Lp 3 0 0 (sO3 q m u k) (.exit 0) (st [(13,.pv (num 0))] [] 4 [])
 | [],k,h=>x1 [(72,.H)] ⟨[13],[],4,[]⟩ (show ltI (.ofNat k) (.ofNat (u.map ic).length)=false from qZv (by simpa using qZp h))
 | v::r,k,h=>by
  have hb:=qQh
  have hm:=qQc
  obtain⟨d1,d2,d3⟩:=qZo h
  have g1:ltI (.ofNat k) (.ofNat (u.map ic).length)=true:=qQy (by simpa using d2)
  have g3:=qQ9 (a:=k) (b:=1) (by omega)
  obtain⟨w1,w2⟩:=hv v (List.mem_of_getElem? d1)
  have ih:=zHn q m hu hl hv r (k+1) d3
  by_cases hlt:v<m
  ·exact n5 [(72,.G),(73,.i (ic v)),(77,.G),(96,.z (k+1))] kO3 g1 (qQi d1 qVx) (qQy hlt) g3 ih
  ·have hw:v-m∈q.u:=by rcases w2 with h|h;exact absurd h hlt;exact h
   have g4:=zHm q m u k v (by omega) (by omega) hl q.u 0 rfl hw
   exact n6 [(72,.G),(73,.i (ic v)),(77,.H),(100018,.l kI3 (.exit 2) (eI3 q m u k true)),(96,.z (k+1))] kO3 g1 (qQi d1 qVx) (qZv (Nat.le_of_not_lt hlt)) g4 g3 ih
theorem qSk:∀ {g:List Ty},(∀ s∈g,s.size≤64)→qNx g=0
 | [],_=>rfl
 | t::r,h=>by
  have e:t.chk=0:=by rw [qWs,ckE_0.2 (h t (by simp))]
  unfold qNx
  rw [e]
  exact qSk fun s hs=>h s (by simp [hs])
theorem FG.csz16 {n:Nat} {f:Fm} (h:FS n f):f.csz≤64:=by have:=h.csz;omega
theorem zQ6 (H:MF) (HU:MU) (hA:A 4 [] (.bool true)) {L:List Int} (hr:∀ z∈L,-9223372036854775808≤z∧z≤9223372036854775807):A 3 [.slice (L.map zc1)] (.bool true):=by
 have hm:=qQc
 have hbg:=qQh
 have gf:=a5 L
 by_cases hlen:L.length≤500
 rotate_left
 ·rw [decide_eq_false hlen] at gf
  exact f3 [(20,.T),(24,.F),(27,.T)] hA gf hA
 rw [decide_eq_true hlen] at gf
 have hL:Dk L:=⟨hlen,hr⟩
 obtain⟨g,hs,b1,z1,z2,z3,z4,hb1,g1⟩:=a7 hL (a:=0) (Nat.zero_le _)
 obtain⟨ls,b2,y1,y2,hb2,g2⟩:=a8 hL hb1
 have hS:S19 M20 ls g hs:=⟨y1,fun f hf=>(y2 f hf).fbd (by omega) (by omega) (Nat.le_refl _),by omega,z2,by omega,fun f hf=>(z4 f hf).fbd (by omega) (by omega) (Nat.le_refl _),Nat.le_refl _⟩
 obtain⟨p,r,b3,hr3,qp,qr,hb3,g3⟩:=a9 H hL hS hb2
 obtain⟨tl,b4,qt,hb4,g4⟩:=a11 hL y1 y2 hb3
 have hcnt:p.cnt≤16384:=by
  rcases hr3 with ⟨f,u,e⟩|⟨t,e⟩
  ·exact (qr f u e).2.1
  ·rw [e.1]
   simp only [Pf.cnt]
   omega
 obtain⟨x,g5,q5⟩:=a10 ls tl g hs p (fun f hf=>by have:=hS.lb f hf;exact⟨by omega,this.2.1⟩) (fun f hf=>by have:=hS.hb f hf;exact⟨by omega,this.2.1⟩) qt (fun s h=>by have:=z2 s h;omega) (by omega) (by omega) (by omega) hcnt (by have:=qp.tsz;omega)
 cases x with
 | er y n=>exact f7 [(20,.T),(24,.T),(31,.D L b1 (.pv (qJs g hs))),(33,.D L b2 (.pv (fms ls))),(38,.D L b3 (.pv (.tuple [p.p,r.v]))),(45,.D L b4 (.pv (row tl))),(48,.r (XR.er y n).p)] hA gf g1 g2 g3 g4 g5
 | ok t =>
  obtain⟨j,ej,hj,hq,k1,k2⟩:=q5 t rfl
  have hc:=qE7 hs
  have hgl:=hq.gl
  have hhl:=hq.hl
  obtain⟨G,g6,eG⟩:=a12 g hs (by
   unfold qNg
   rw [qZv (show (g.map Ty.c).length≤16 by simp;omega)]
   exact qSk fun s h=>by have:=z2 s h;omega) (by omega) (fun f hf=>⟨(hq.hs f hf).chk,(z4 f hf).csz16⟩)
  obtain⟨u,g7,q7,q8⟩:=HU t k1.chk (by have:=k1.mx (by show g.length+qZs hs≤lim;have hlm:lim=100000:=rfl;omega);omega)
  have hru:r.u.length≤mid:=by
   cases r with
   | er n=>exact Nat.zero_le _
   | ok f w=>have:=(qr f w rfl).2.2.2;show w.length≤mid;omega
  have key:∀ v∈u,v≤mid∧(v<qZs hs∨v-qZs hs∈r.u):=fun v hv=>by
   obtain⟨o1,o2⟩:=q7 v hv
   refine⟨o2,?_⟩
   rcases k2 v o1 with h|h
   ·exact .inl h
   ·right
    rcases hr3 with ⟨f,w,e⟩|⟨t',e,_⟩
    ·subst e
     have h3:=qKz ls j g.length hs _ hj h
     rw [ej] at h3
     exact (qr f w rfl).2.2.1 _ h3
    ·rw [e] at ej
     cases j<;>simp [Jt.p] at ej
     exact h.elim
  have g8:inB (Int.ofNat (G.map Ty.c).length - .ofNat (g.map Ty.c).length)=true∧Int.ofNat (G.map Ty.c).length - .ofNat (g.map Ty.c).length = .ofNat (qZs hs):=by
   have e:Int.ofNat (G.map Ty.c).length - .ofNat (g.map Ty.c).length = .ofNat (qZs hs):=by simp [eG];omega
   exact⟨by rw [e];exact inN (by omega),e⟩
  have g9:=zHn r (qZs hs) q8 hru key u 0 rfl
  exact f11 [(20,.T),(24,.T),(31,.D L b1 (.pv (qJs g hs))),(33,.D L b2 (.pv (fms ls))),(38,.D L b3 (.pv (.tuple [p.p,r.v]))),(45,.D L b4 (.pv (row tl))),(48,.r (XR.ok t).p),(55,.U [tys G,num 0]),(60,.U [qQl u,num 0]),(68,.z (qZs hs)),(100013,.l kO3 (.exit 0) (st [(13,.pv (num 0))] [] 4 []))] hA gf g1 g2 g3 g4 g5 g6 g7 g8 g9
open Go.Lg
set_option maxRecDepth 100000
abbrev sT:Tm:=.n1 .succ (.v 0)
abbrev sF:Fm:=.q .ex .nat (.eq (.v 0) (.n1 .succ (.v 1)))
abbrev sP:Pf:=.all false .nat (.ex false sF sT (.refl sT))
abbrev sJ:Jt:=.all false .nat (.ex false sF sT (.refl sT))
abbrev sR:Tm:=.lam .nat sT
theorem a14:A 14 [] sP.p:=f0 []
abbrev kX:PV:=.tuple [.agg [num 4,num 1,.slice [],.slice [],.slice [sF.c],.slice []],num 0]
theorem zLg:A 67 [fms [],qJs [] [],sP.p] kX:=by
 have e:(kX=kX)=zDo ev Tryz.prog 100 40 67 [fms [],qJs [] [],sP.p] [] kX:=by kernel_rfl
 exact qPx qDg (e ▸ rfl)
theorem zFz:sJ.OK [] 0 []:=by
 have h1:FK 1 sF:=⟨by decide,rfl,by simp [Fm.sc,Tm.sc]⟩
 have h2:TK 1 sT:=⟨by decide,rfl,by simp [Tm.sc]⟩
 have h3:FK 1 (.eq sT sT):=⟨by decide,rfl,by simp [Fm.sc,Tm.sc]⟩
 exact⟨by decide,⟨by decide,rfl,h1.sc⟩,h1,h2,⟨h2,h3⟩,⟨.nat,rfl⟩,rfl⟩
theorem zLh:A 23 [fms [],qJs [] [],sP.p] (.tuple [sJ.ptr [],num 0]):=by
 have hm:=qQc
 have g2:=a68 (ls:=[]) sJ 0 [] (by simp) (by decide) (by decide) zFz
 exact f2 [(14,.r kX),(24,.r (sJ.ptr []))] zLg g2
theorem zLi:A 69 [blp [],sJ.ptr [],(qG3 0 0).p] (XR.ok sR).p:=by
 have hS:=(qSb 0 0).bind.var (t:=.v 0) (TKv (by decide))
 have gp:=zC6 ((qG3 0 0).bind.var (.v 0)) sT 1 hS.vl.symm hS.ve (by decide) (by decide) ⟨by decide,rfl,by simp [Tm.sc]⟩
 have g:=qR6 (tl:=[]) (hs:=[]) (a:=.refl sT) (x:=sF) (y:=.eq sT sT) (w:=sT) rfl gp
 exact zJ6 (tl:=[]) (hs:=[]) (u:=.nat) (a:=.ex false sF sT (.refl sT)) (y:=sF) (qS4 (qG3 0 0) (by decide)) (qS5 (qG3 0 0).bind (.v 0) (by decide)) g (by decide)
theorem zLj:A 10 [fms [],row [],qJs [] [],sP.p] (XR.ok sR).p:=by
 have g2:A 15 [fms [],row []] (num 0):=f0 []
 have g3:A 25 [qJs [] []] (qG3 0 0).p:=a25 [] [] (n:=0) (by decide) (by simp) (by simp) (by simp)
 have g5:A 24 [row [],sJ.ptr [],(qG3 0 0).p] (XR.ok sR).p:=f1 [(12,.r (XR.ok sR).p)] zLi
 exact f4 [(17,.U [sJ.ptr [],num 0]),(26,.N 0),(40,.r (qG3 0 0).p),(41,.r (XR.ok sR).p)] zLh g2 g3 g5
theorem a4:A 4 [] (.bool true):=by
 have g2:A 15 [fms [],row []] (num 0):=f0 []
 exact f3 [(5,.r sP.p),(6,.r (XR.ok sR).p),(31,.N 0)] a14 zLj g2
end Go.Proofs.YtmcockinhpiomaaGreatDoor
namespace Go.Lg
theorem Ga.swapO {C:Ctx} {E:Env} {σ:St} {a:Act} {w:World} (h:Ga C E σ a w) {n:Nat} {o o':Ob} (hn:qQd σ.objs n=some o) (ho:ObOK E w n o') (hu:∀ m∈o'.names,m∈σ.used):Ga C E ⟨σ.slots,qVb σ.objs n o',σ.used⟩ a w:=by
 have hg:∀ m,qQd (qVb σ.objs n o') m=if m=n then some o' else qQd σ.objs m:=fun m=>qQr _ _ _ _
 have hs:∀ m q,qQd (qVb σ.objs n o') m=some q→∃ q',qQd σ.objs m=some q':=fun m q h=>by
  rw [hg] at h
  split at h
  ·rename_i e;subst e;exact⟨o,hn⟩
  ·exact⟨q,h⟩
 refine⟨h.slots,h.size,h.defers,h.heap,?_,?_,h.usedS,?_,h.usedG,h.grown,h.rest,h.same,h.hle,?_,h.ext,?_⟩
 ·intro m q hm
  simp only [hg] at hm
  split at hm
  ·rename_i e;cases hm;subst e;exact ho
  ·exact h.objs m q hm
 ·intro m m' q q' hm hm' hne b hb
  obtain⟨p,hp⟩:=hs m q hm
  obtain⟨p',hp'⟩:=hs m' q' hm'
  exact h.apart m m' p p' hp hp' hne b hb
 ·intro m q hm
  simp only [hg] at hm
  split at hm
  ·rename_i e;cases hm;subst e;exact⟨(h.usedO _ _ hn).1,hu⟩
  ·exact h.usedO m q hm
 ·intro m q b hm hb hlt
  obtain⟨p,hp⟩:=hs m q hm
  exact h.own m p b hp hb hlt
 ·intro m hm
  obtain⟨k1,k2,k3⟩:=h.keep m hm
  refine⟨k1,?_,k3⟩
  simp only [hg]
  split
  ·rename_i e;subst e;rw [hn] at k2;cases k2
  ·exact k2
theorem Ga.slotW {C:Ctx} {E:Env} {σ:St} {a:Act} {w:World} (h:Ga C E σ a w) {d:Nat} {x:V} {v:Value} (hx:RepV E x v) (hn:∀ n∈x.names,n∈σ.used) (hd:d<C.nt):Ga C E ⟨(d,x)::σ.slots,σ.objs,σ.used⟩ (a.put (some d) v) w :=
 h.pure E.H (some d) x v (Hle.refl _) (Nat.le_refl _) ⟨rfl,rfl,rfl⟩ (fun _ _=>⟨rfl,rfl⟩) h.heap hx hn (fun _ e=>by cases e;exact hd)
theorem qXq {C:Ctx} {E:Env} {σ:St} {a:Act} {w:World} (h:Ga C E σ a w) {d:Nat} (hd:d<C.nt) (v:Value):(a.put (some d) v).eval (.tmp d)=v:=by
 have:d<a.tmps.size:=by rw [h.size];exact hd
 simp [Act.put,Act.eval,this]
section
variable {X:qZ9} {id:Nat} {σ:St} {Q:AEx→St→Prop} {t1 t2 t3:Nat} {p1 p2 p3:String} {f1 f2 f3:Array Edge}
theorem AWP.range {n r b ck t kt vt:Nat} {ms:Array MapEntry} {s d1 d2:Nat} (hs:qZ0 σ.slots s = .map n) (ho:qQd σ.objs n=some (.raw (.map (some b)) (.map ms ck))) (hr:r ∉ σ.used) (hu:X.P.underlying t=some (.map kt vt)) (h1:d1<X.nt) (h2:d2<X.nt)
  (hQ:∀ rb,Q .normal ⟨(d2,.loc r 0)::(d1,.map n)::σ.slots,qVb σ.objs r (.raw (.pointer (some ⟨rb,0,none⟩)) (.mapIter (some b) ck #[] ck)),r::σ.used⟩) :
  AWP X (.region id #[⟨some d1,.move (.tmp s),t1,p1,f1,none⟩,⟨some d2,.range t (.tmp d1),t2,p2,f2,none⟩] false) σ Q:=by
 intro C E a w hC hG
 have hd1:d1<C.nt:=by rw [hC.nt];exact h1
 have hd2:d2<C.nt:=by rw [hC.nt];exact h2
 have hv:=hG.slots s
 rw [hs] at hv
 simp only [RepV] at hv
 obtain⟨b',hg,hv⟩:=hv
 obtain⟨hg',b0,hb0,hcell,hfree⟩:=hG.objs n _ ho
 rw [hg'] at hg
 cases hg
 cases hb0
 have hG1:Ga C E ⟨(d1,.map n)::σ.slots,σ.objs,σ.used⟩ (a.put (some d1) (a.eval (.tmp s))) w:=hG.slotW (x:=.map n) (v:=a.eval (.tmp s)) (by
  simp only [RepV];exact⟨b,hg',hv⟩) (fun m hm=>by
   have:=hG.usedS s;rw [hs] at this;exact this m hm) hd1
 have hv1:(a.put (some d1) (a.eval (.tmp s))).eval (.tmp d1) = .map (some b):=by rw [qXq hG hd1];exact hv
 have hrun:=run_range_map (P:=X.P) w t kt vt b ms ck hu hcell
 refine wp_region_list ?_
 refine wpList_plain rfl fun K hK => ?_
 refine OpRes.wp (v:=a.eval (.tmp s)) (w':=w) (.inl (by simp [execOp])) (hK _ _ ?_)
 refine wpList_plain rfl fun K hK => ?_
 refine OpRes.wp (v:=.pointer (some ⟨w.heap.size,0,none⟩)) (w':=w.alloc (.mapIter (some b) ck #[] ck)) (.inl (by
  simp only [execOp,hv1,Sem.run_bind,hrun,Result.andThen_ok,Sem.run_pure])) (hK _ _ ?_)
 let E':Env:={ E with g:=fun m=>if m=r then .pointer (some ⟨w.heap.size,0,none⟩) else E.g m }
 have hgr:E'.g r = .pointer (some ⟨w.heap.size,0,none⟩):=by simp [E']
 have hE:∀ m,m≠r→E'.g m=E.g m∧E'.ver m=E.ver m∧E'.sz m=E.sz m:=fun m hm=>⟨by simp [E',hm],rfl,rfl⟩
 refine⟨E',_,.normal,?_,rfl,hQ w.heap.size⟩
 refine hG1.change (E':=E') r (some (.raw (.pointer (some ⟨w.heap.size,0,none⟩)) (.mapIter (some b) ck #[] ck))) _ (r::σ.used) (some d2) (.loc r 0) _ (fun m=>qQr _ _ _ _) (Hle.refl _) hE (fun hk=>absurd hk hr) (fun hk=>absurd hk hr)
  (by simp) ⟨rfl,rfl,rfl⟩ (fun b hb _=>⟨@heap_alloc_old w _ b hb,rfl⟩) (qZh hG1.heap _ E' rfl) ?_ ?_ (fun m hm=>by simp [hm]) ?_ ?_ (fun _ e=>by cases e;exact hd2)
 ·intro o' e
  cases e
  exact⟨⟨hgr,w.heap.size,rfl,heap_alloc_new w _,hG1.heap.lt (Nat.le_refl _)⟩,by simp,by simp [Ob.names]⟩
 ·intro o' b e hb
  rw [hgr] at hb
  simp [blk] at hb
  omega
 ·exact⟨_,hgr,rfl⟩
 ·simp [V.names]
theorem AWP.next {n r b rb ck since c0:Nat} {ms:Array MapEntry} {seen:Array Nat} {s d1 d2:Nat} (hne:n≠r) (hs:qZ0 σ.slots s = .loc r 0) (ho:qQd σ.objs n=some (.raw (.map (some b)) (.map ms ck))) (hi:qQd σ.objs r=some (.raw (.pointer (some ⟨rb,0,none⟩)) (.mapIter (some b) since seen c0)))
  (hold:∀ x∈ms.toList,x.born<since) (hsc:since≤c0) (h1:d1<X.nt) (h2:d2<X.nt)
  (hQ0:(leftOf ms seen).size=0→Q .normal ⟨(d2,.pv (.bool false))::(d1,.undef)::σ.slots,σ.objs,σ.used⟩)
  (hQ1:∀ e∈(leftOf ms seen).toList,Q .normal ⟨(d2,.pv (.bool true))::(d1,.undef)::σ.slots,qVb σ.objs r (.raw (.pointer (some ⟨rb,0,none⟩)) (.mapIter (some b) since (seen.push e.born) ck)),σ.used⟩) :
  AWP X (.region id #[⟨some d1,.next (.tmp s) false,t1,p1,f1,none⟩,⟨some d2,.extract (.tmp d1) 0,t2,p2,f2,none⟩] false) σ Q:=by
 intro C E a w hC hG
 have hd1:d1<C.nt:=by rw [hC.nt];exact h1
 have hd2:d2<C.nt:=by rw [hC.nt];exact h2
 have hv:=hG.slots s
 rw [hs] at hv
 simp only [RepV] at hv
 obtain⟨b1,hg1,hv⟩:=hv
 obtain⟨hgm,b2,hb2,hcell,hfree⟩:=hG.objs n _ ho
 obtain⟨hgr,b3,hb3,hcr,hfr⟩:=hG.objs r _ hi
 rw [hgr] at hg1
 cases hg1
 cases hb2
 cases hb3
 have hbr:b≠rb:=fun e=>hG.apart n r _ _ ho hi hne b (by rw [hgm];rfl) (by rw [hgr,e];rfl)
 have hrl:rb<w.heap.size:=(Array.getElem?_eq_some_iff.1 hcr).1
 have hv:a.eval (.tmp s) = .pointer (some ⟨rb,0,none⟩):=hv
 refine wp_region_list ?_
 refine wpList_plain rfl fun K hK => ?_
 rcases run_next_at (P:=X.P) w t1 rb b since c0 seen ms ck hcr hcell hold hsc with ⟨h0,hrun⟩|⟨e,he,w1,hal,hrun⟩
 ·refine OpRes.wp (v:=.tuple #[.bool false]) (w':=w) (.inl (by simp only [execOp,hv,Sem.run_bind,hrun,Result.andThen_ok,Sem.run_pure])) (hK _ _ ?_)
  have hG1:Ga C E ⟨(d1,.undef)::σ.slots,σ.objs,σ.used⟩ (a.put (some d1) (.tuple #[.bool false])) w:=hG.slotW (x:=.undef) trivial (fun m hm=>by cases hm) hd1
  refine wpList_plain rfl fun K hK => ?_
  refine OpRes.wp (v:=.bool false) (w':=w) (.inl (by simp only [execOp,qXq hG hd1];rfl)) (hK _ _ ?_)
  exact⟨E,_,.normal,hG1.slotW (x:=.pv (.bool false)) (by simp [RepV,RepP]) (fun m hm=>by cases hm) hd2,rfl,hQ0 h0⟩
 ·have hw1:w1.heap=w.heap∧w1.os=w.os∧w1.tape=w.tape∧w1.output=w.output:=by rcases hal with rfl|rfl<;>exact⟨rfl,rfl,rfl,rfl⟩
  refine OpRes.wp (v:=.tuple #[.bool true,e.key,e.val]) (w':=ChangeMaps.setBlock w1 rb (.mapIter (some b) since (seen.push e.born) ck)) (.inl (by simp only [execOp,hv,Sem.run_bind,hrun,Result.andThen_ok,Sem.run_pure])) (hK _ _ ?_)
  have hset:∀ i,(ChangeMaps.setBlock w1 rb (.mapIter (some b) since (seen.push e.born) ck)).heap[i]? = if i=rb then some (.mapIter (some b) since (seen.push e.born) ck) else w.heap[i]?:=by
   intro i
   simp only [ChangeMaps.setBlock,hw1.1]
   by_cases hi:i=rb
   ·subst hi
    simp [hrl]
   ·rw [if_neg hi,Array.getElem?_setIfInBounds_ne (fun h=>hi h.symm)]
  have hG1:Ga C E ⟨(d1,.undef)::σ.slots,qVb σ.objs r (.raw (.pointer (some ⟨rb,0,none⟩)) (.mapIter (some b) since (seen.push e.born) ck)),σ.used⟩ (a.put (some d1) (.tuple #[.bool true,e.key,e.val])) (ChangeMaps.setBlock w1 rb (.mapIter (some b) since (seen.push e.born) ck)):=by
   refine hG.change (E':=E) r (some (.raw (.pointer (some ⟨rb,0,none⟩)) (.mapIter (some b) since (seen.push e.born) ck))) _ σ.used (some d1) .undef _ (fun m=>qQr _ _ _ _) (Hle.refl _) (fun _ _=>⟨rfl,rfl,rfl⟩) (fun _=>EExt.refl _ _) (fun _=>⟨_,hi⟩)
    (by simp [ChangeMaps.setBlock,hw1.1]) ⟨hw1.2.1,hw1.2.2.1,hw1.2.2.2⟩ (fun i hlt hne'=>⟨by rw [hset,if_neg (fun h=>hne' _ hi (by rw [hgr,h];rfl))],rfl⟩) ?_ ?_ ?_ (fun _ h=>h) trivial (fun m hm=>by cases hm) (fun _ e=>by cases e;exact hd1)
   ·intro i hi'
    have:i≠rb:=fun h=>hi' (h ▸ hfr)
    obtain⟨c,T',fr,hc,hp⟩:=hG.heap i hi'
    exact⟨c,T',fr,by rw [hset,if_neg this];exact hc,hp⟩
   ·intro o' e'
    cases e'
    exact⟨⟨hgr,rb,rfl,by rw [hset,if_pos rfl],hfr⟩,(hG.usedO r _ hi).1,by simp [Ob.names]⟩
   ·intro o' b' e' hb'
    exact .inr ⟨hb',_,hi⟩
  refine wpList_plain rfl fun K hK => ?_
  refine OpRes.wp (v:=.bool true) (w':=_) (.inl (by simp only [execOp,qXq hG hd1];rfl)) (hK _ _ ?_)
  exact⟨E,_,.normal,hG1.slotW (x:=.pv (.bool true)) (by simp [RepV,RepP]) (fun m hm=>by cases hm) hd2,rfl,hQ1 e he⟩
theorem AWP.entry {n r b rb ck since:Nat} {ms:Array MapEntry} {seen:Array Nat} {e:MapEntry} {z:Int} {s d1 d2 d3:Nat} (hs:qZ0 σ.slots s = .loc r 0) (ho:qQd σ.objs n=some (.raw (.map (some b)) (.map ms ck))) (hi:qQd σ.objs r=some (.raw (.pointer (some ⟨rb,0,none⟩)) (.mapIter (some b) since (seen.push e.born) ck)))
  (he:e∈ms.toList) (hnd:(ms.toList.map (·.born)).Nodup) (hz:e.key = .int .i64 z) (h1:d1<X.nt) (h2:d2<X.nt) (h3:d3<X.nt)
  (hQ:Q .normal ⟨(d3,.pv (.int z))::(d2,.pv (.int z))::(d1,.undef)::σ.slots,σ.objs,σ.used⟩) :
  AWP X (.region id #[⟨some d1,.entry (.tmp s),t1,p1,f1,none⟩,⟨some d2,.extract (.tmp d1) 0,t2,p2,f2,none⟩,⟨some d3,.assign (.tmp d2),t3,p3,f3,none⟩] false) σ Q:=by
 intro C E a w hC hG
 have hd1:d1<C.nt:=by rw [hC.nt];exact h1
 have hd2:d2<C.nt:=by rw [hC.nt];exact h2
 have hd3:d3<C.nt:=by rw [hC.nt];exact h3
 have hv:=hG.slots s
 rw [hs] at hv
 simp only [RepV] at hv
 obtain⟨b1,hg1,hv⟩:=hv
 obtain⟨hgm,b2,hb2,hcell,hfree⟩:=hG.objs n _ ho
 obtain⟨hgr,b3,hb3,hcr,hfr⟩:=hG.objs r _ hi
 rw [hgr] at hg1
 cases hg1
 cases hb2
 cases hb3
 have hv:a.eval (.tmp s) = .pointer (some ⟨rb,0,none⟩):=hv
 have hrun:=run_entry_at (P:=X.P) w rb b since seen ms ck e hcr hcell he hnd
 refine wp_region_list ?_
 refine wpList_plain rfl fun K hK => ?_
 refine OpRes.wp (v:=.tuple #[e.key,e.val]) (w':=w) (.inl (by simp only [execOp,hv,Sem.run_bind,hrun,Result.andThen_ok,Sem.run_pure])) (hK _ _ ?_)
 have hG1:Ga C E ⟨(d1,.undef)::σ.slots,σ.objs,σ.used⟩ (a.put (some d1) (.tuple #[e.key,e.val])) w:=hG.slotW (x:=.undef) trivial (fun m hm=>by cases hm) hd1
 refine wpList_plain rfl fun K hK => ?_
 refine OpRes.wp (v:=.int .i64 z) (w':=w) (.inl (by simp only [execOp,qXq hG hd1,hz];rfl)) (hK _ _ ?_)
 have hG2:=hG1.slotW (d:=d2) (x:=.pv (.int z)) (v:=.int .i64 z) (by simp [RepV,RepP]) (fun m hm=>by cases hm) hd2
 refine wpList_plain rfl fun K hK => ?_
 refine OpRes.wp (v:=.int .i64 z) (w':=w) (.inl (by simp only [execOp,qXq hG1 hd2];rfl)) (hK _ _ ?_)
 exact⟨E,_,.normal,hG2.slotW (x:=.pv (.int z)) (by simp [RepV,RepP]) (fun m hm=>by cases hm) hd3,rfl,hQ⟩
end
end Go.Lg
namespace Go.Proofs.YtmcockinhpiomaaGreatDoor
open Go.Lg
set_option maxRecDepth 100000
abbrev vN (L:List Nat):List (List V):=pvE (L.map ic)
theorem qSl (A B:List Nat) (x:Nat):qXf (vN (A++x::B)) A.length=some [.pv (num x)]:=by
 rw [qJ0,zVt]
 simp [ic,pvL]
theorem zVa (A:List Nat):(vN A).length=A.length:=by simp [vN,pvE]
theorem zVb (A B:List Nat) (x y:Nat):(vN (A++x::B)).set A.length [.pv (num y)]=vN (A++y::B):=by
 simp only [vN,pvE,List.map_append,List.map_cons]
 rw [show A.length=(List.map pvL (List.map ic A)).length by simp,List.set_append_right _ _ (Nat.le_refl _),Nat.sub_self]
 rfl
theorem ixA {n v k len:Nat} {es:List (List V)} (h1:k<len) (h2:len≤es.length):ro (bif Nat.beq v v then (bif Nat.blt k len then (bif Nat.beq 1 1 then (bif Nat.ble len es.length then some (V.eloc n v k 0) else none) else none) else none) else none)=some ⟨.eloc n v k 0,none,false⟩:=by
 rw [qH1 rfl,show Nat.blt k len=true from Nat.ble_eq_true_of_le h1,show Nat.ble len es.length=true from Nat.ble_eq_true_of_le h2]
 rfl
theorem ldA {v k:Nat} {es:List (List V)} {x:V} (h:qXf es k=some [x]):ro (match qXf es k with
   | some e=>bif Nat.beq v v then zYd false 1 (qF0 e 0) else none
   | none=>none)=some ⟨x,none,false⟩:=by
 rw [h,qH1 rfl]
 rfl
theorem stA {n v k:Nat} {es es':List (List V)} {x y:V} (h:qXf es k=some [x]) (h':es.set k [y]=es'):(bif Nat.beq v v then (bif Nat.ble (0+1) 1 then (match qXf es k with
    | some e=>some (⟨.undef,some (n,.arr v 1 3 (es.set k (qDk e 0 [y]))),false⟩:RB)
    | none=>none) else none) else none)=some ⟨.undef,some (n,.arr v 1 3 es'),false⟩:=by
 rw [h,qH1 rfl]
 subst h'
 rfl
theorem zF0 {a:Nat} (h:a≤big):inB (Int.ofNat (a+1)-1)=true∧Int.ofNat (a+1)-1 = .ofNat a:=by
 have e:Int.ofNat (a+1)-1 = .ofNat a:=by simp
 exact⟨by rw [e];exact zXl (by simp;try omega) (by have:=h;simp [big] at *;omega),e⟩
abbrev zK0 (mv:Value) (mo:Obj) (iv:Value) (io:Obj) (v:Nat) (L:List Nat):List (Nat × Ob):=[(0,.raw mv mo),(1,.raw iv io),(2,.arr v 1 3 (vN L))]
abbrev zX1 (v len n i:Nat):List (Nat × V):=[(3,.arr 2 v len),(4,.pv (num n)),(5,.pv (num i)),(7,.loc 1 0)]
abbrev k33:Kp:=⟨[3,4,5,7],[0,1,2],3,[]⟩
section
variable {mv iv:Value} {mo io:Obj} {n v len:Nat}
theorem qSm:∀ (k:Nat) (A:List Nat) (y:Nat) (B:List Nat),A.length=k→len=A.length+1+B.length→len≤big →
  ∃ (A':List Nat) (y':Nat) (B':List Nat),A'++B'=A++B∧(∀ x∈B',x∈B∨n<x)∧(∀ h:A'≠[],A'.getLast h≤n) ∧
   Lp 33 1 1 (st (zX1 v len n A.length) (zK0 mv mo iv io v (A++y::B)) 3 []) (.exit 2) (st (zX1 v len n A'.length) (zK0 mv mo iv io v (A'++y'::B')) 3 [])
 | 0,A,y,B,hk,hl,hb=>by
  have e:A=[]:=List.length_eq_zero_iff.1 hk
  subst e
  exact⟨[],y,B,rfl,fun x hx => .inl hx,fun h=>absurd rfl h,y1 [(19,.H)] k33 (qZv (Nat.le_refl 0)) (qQn ((y::B).map ic))⟩
 | k+1,A,y,B,hk,hl,hb=>by
  have hne:A≠[]:=fun e=>by subst e;cases hk
  obtain⟨A0,x,rfl⟩:∃ A0 x,A=A0++[x]:=⟨A.dropLast,A.getLast hne,(List.dropLast_concat_getLast hne).symm⟩
  have e0:A0.length=k:=by simpa using hk
  have el:(A0++[x]).length=A0.length+1:=by simp
  have ea:A0++[x]++y::B=A0++x::y::B:=by simp
  have gl:(vN (A0++x::y::B)).length=len:=by rw [zVa];simp at hl ⊢;omega
  rw [el] at hl ⊢
  rw [ea]
  have g1:=qQy (show 0<A0.length+1 by omega)
  have g2:=zF0 (a:=A0.length) (by omega)
  have g3:=ixA (n:=2) (v:=v) (k:=A0.length) (len:=len) (es:=vN (A0++x::y::B)) (by omega) (by omega)
  have g4:=ldA (v:=v) (qSl A0 (y::B) x)
  by_cases hx:n<x
  ·obtain⟨A',y',B',h1,h2,h3,ih⟩:=qSm k A0 x (x::B) e0 (by simp;omega) hb
   have g6:=ixA (n:=2) (v:=v) (k:=A0.length+1) (len:=len) (es:=vN (A0++x::y::B)) (by omega) (by omega)
   have g7:=stA (n:=2) (v:=v) (k:=A0.length+1) (es:=vN (A0++x::y::B)) (es':=vN (A0++x::x::B)) (y:=.pv (num x)) (by
    have:=qSl (A0++[x]) B y;simpa using this) (by
    have:=zVb (A0++[x]) B y x;simpa using this)
   refine⟨A',y',B',by simpa using h1,fun z hz => ?_,h3,?_⟩
   ·rcases h2 z hz with h|h
    ·rcases List.mem_cons.1 h with rfl|h
     ·exact .inr hx
     ·exact .inl h
    ·exact .inr h
   ·exact rk [(19,.G),(23,.z A0.length),(24,.w ⟨.eloc 2 v A0.length 0,none,false⟩),(25,.w ⟨.pv (num x),none,false⟩),(27,.G),(33,.z A0.length),(34,.w ⟨.eloc 2 v A0.length 0,none,false⟩),(35,.w ⟨.pv (num x),none,false⟩),(36,.w ⟨.eloc 2 v (A0.length+1) 0,none,false⟩),(99999,.w ⟨.undef,some (2,.arr v 1 3 (vN (A0++x::x::B))),false⟩),(38,.z A0.length)] k33 k33 (And.intro g1 (And.intro g2 (And.intro g3 (And.intro g4 (And.intro (qQy hx) (And.intro g2 (And.intro g3 (And.intro g4 (And.intro g6 (And.intro g7 (And.intro g2 (And.intro (qQn ((A0++x::x::B).map ic)) ih))))))))))))
  ·refine⟨A0++[x],y,B,by simp,fun z hz => .inl hz,fun _=>by simp;omega,?_⟩
   rw [el,ea]
   exact y5 [(19,.G),(23,.z A0.length),(24,.w ⟨.eloc 2 v A0.length 0,none,false⟩),(25,.w ⟨.pv (num x),none,false⟩),(27,.H)] k33 g1 g2 g3 g4 (qZv (show x≤n by omega)) (qQn ((A0++x::y::B).map ic))
end
end Go.Proofs.YtmcockinhpiomaaGreatDoor
namespace Go.Lg
section
variable {ev:qVl} {P:Program}
def goT (ev:qVl) (P:Program) (n N nt bs:Nat) (b:Code) (s:IS) (tp:Di) (ko:Kp) (e:AE) (s':IS):Prop :=
 qIb ev P (qGg ev P N n) N nt bs b s tp fun e1 s1 _=>e1=e∧gd (qTy ko bs s1) (qNe s1.ob ko.on (kpT ko s1=s'))
theorem Reach.of_go (he:zZm ev P) {n N nt bs:Nat} {b:Code} {s s':IS} {tp:Di} {ko:Kp} {e:AE} (h:goT ev P n N nt bs b s tp ko e s'):Reach ev P nt bs b s e s':=by
 obtain⟨e1,s1,tp1,h1,rfl,h2⟩:=qZc (qKb he N n) _ _ _ _ h
 obtain⟨hk,h2⟩:=qKg h2
 obtain⟨h2,ha⟩:=qVf h2
 exact h2 ▸ h1.keep (qKw hk ha)
theorem Rel.slotT {s:IS} {σ:St} (h:Rel s σ) (d:Nat) (x:V):Rel ⟨s.sl.put d (some x),s.ob,s.nx,s.dt⟩ ⟨(d,x)::σ.slots,σ.objs,σ.used⟩:=by
 refine⟨fun t => ?_,h.ob,h.us⟩
 show (if d=t then x else qZ0 σ.slots t)=_
 rw [Tr.get_put]
 by_cases e:t=d
 ·subst e;simp
 ·rw [if_neg e,if_neg (fun h=>e h.symm)];exact h.sl t
theorem Rel.objT {s:IS} {σ:St} (h:Rel s σ) (n:Nat) (o:Ob):Rel ⟨s.sl,s.ob.put n (some o),s.nx,s.dt⟩ ⟨σ.slots,qVb σ.objs n o,σ.used⟩:=by
 refine⟨h.sl,fun m => ?_,h.us⟩
 show qQd (qVb σ.objs n o) m=_
 rw [qQr,Tr.get_put]
 by_cases e:m=n
 ·rw [if_pos e,if_pos e]
 ·rw [if_neg e,if_neg e];exact h.ob m
theorem Rel.newT {s:IS} {σ:St} (h:Rel s σ) (o:Ob):Rel ⟨s.sl,s.ob.put s.nx (some o),s.nx+1,s.dt⟩ ⟨σ.slots,qVb σ.objs s.nx o,s.nx::σ.used⟩:=by
 have:=h.objT s.nx o
 exact⟨this.sl,this.ob,fun m hm=>by
  rcases List.mem_cons.1 hm with rfl|hm
  ·exact Nat.lt_succ_self _
  ·exact Nat.lt_succ_of_lt (h.us m hm)⟩
theorem Rel.keep {nt bs:Nat} {X:qZ9} (hX:HX X ev P nt bs) {s s':IS} {σ:St} (h:Rel s σ) (k:Kp) (hk:qTy k bs s=true) (ha:qNe s.ob k.on True) (he:kpT k s=s'):∃ τ,WkX X σ τ∧Rel s' τ:=he ▸ (qKw hk (qVf ha).2).wk hX h
end
end Go.Lg
namespace Go.Proofs.YtmcockinhpiomaaGreatDoor
open Go.Lg
set_option maxRecDepth 100000
def cs1:Code→Code
 | .seq a _=>a
 | c=>c
def cs2:Code→Code
 | .seq _ b=>b
 | c=>c
def cbk:Code→Code
 | .block _ b=>b
 | .loop b=>b
 | c=>c
noncomputable def b33:Code:=lpc 33 0
noncomputable def n33:Code:=cs1 b33
noncomputable def c33:Code:=cs1 (cs2 b33)
noncomputable def e33:Code:=cs1 (cbk (cs2 (cs2 b33)))
noncomputable def r33:Code:=cs2 (cbk (cs2 (cs2 b33)))
theorem zLk:b33 = .seq n33 (.seq c33 (.block 1 (.seq e33 r33))):=by kernel_rfl
theorem zLl:∃ i t1 t2 p1 p2 f1 f2,n33 = .region i #[⟨some 8,.next (.tmp 7) false,t1,p1,f1,none⟩,⟨some 9,.extract (.tmp 8) 0,t2,p2,f2,none⟩] false:=⟨_,_,_,_,_,_,_,rfl⟩
theorem zLm:∃ i t1 t2 t3 p1 p2 p3 f1 f2 f3,e33 = .region i #[⟨some 10,.entry (.tmp 7),t1,p1,f1,none⟩,⟨some 11,.extract (.tmp 10) 0,t2,p2,f2,none⟩,⟨some 4,.assign (.tmp 11),t3,p3,f3,none⟩] false:=⟨_,_,_,_,_,_,_,_,_,_,rfl⟩
noncomputable def a33:Code:=match (fnc 33).body with
 | some c=>c
 | none => .skip
theorem zLn:a33 = .seq (cs1 a33) (.seq (cs1 (cs2 a33)) (.seq (.seq (cs1 (cs1 (cs2 (cs2 a33)))) (.block 0 (.loop b33))) (cs2 (cs2 (cs2 a33))))):=by kernel_rfl
theorem zLo:∃ i t1 t2 p1 p2 f1 f2,cs1 (cs1 (cs2 (cs2 a33))) = .region i #[⟨some 6,.move (.tmp 0),t1,p1,f1,none⟩,⟨some 7,.range 86 (.tmp 6),t2,p2,f2,none⟩] false:=⟨_,_,_,_,_,_,_,rfl⟩
theorem zF1:(fnc 33).ntmps=44:=by kernel_rfl
abbrev Rc (bs f:Nat) (c:Code) (s:IS) (e:AE) (s':IS):Prop:=Go.Lg.Reach ev Tryz.prog (fnc f).ntmps bs c s e s'
section
variable {f bs:Nat} {c:Code} {s s':IS} {e:AE}
theorem rg0 (tp:Di) (ko:Kp) {N:Prop}  (m:N) (q:(e=e∧N∧s'=s')=goT ev Tryz.prog 6 100 (fnc f).ntmps bs c s tp ko e s':=by kernel_rfl):Rc bs f c s e s':=Reach.of_go qDg (q ▸ (⟨rfl,m,rfl⟩:e=e∧N∧s'=s'))
theorem rg1 (tp:Di) (ko:Kp) {H1 N:Prop} (h1:H1) (m:N) (q:(H1∧e=e∧N∧s'=s')=goT ev Tryz.prog 6 100 (fnc f).ntmps bs c s tp ko e s':=by kernel_rfl):Rc bs f c s e s':=Reach.of_go qDg (q ▸ (⟨h1,rfl,m,rfl⟩:H1∧e=e∧N∧s'=s'))
theorem rg2 (tp:Di) (ko:Kp) {H1 H2 N:Prop} (h1:H1) (h2:H2) (m:N) (q:(H1∧H2∧e=e∧N∧s'=s')=goT ev Tryz.prog 6 100 (fnc f).ntmps bs c s tp ko e s':=by kernel_rfl):Rc bs f c s e s':=Reach.of_go qDg (q ▸ (⟨h1,h2,rfl,m,rfl⟩:H1∧H2∧e=e∧N∧s'=s'))
theorem rg3 (tp:Di) (ko:Kp) {H1 H2 H3 N:Prop} (h1:H1) (h2:H2) (h3:H3) (m:N) (q:(H1∧H2∧H3∧e=e∧N∧s'=s')=goT ev Tryz.prog 6 100 (fnc f).ntmps bs c s tp ko e s':=by kernel_rfl):Rc bs f c s e s':=Reach.of_go qDg (q ▸ (⟨h1,h2,h3,rfl,m,rfl⟩:H1∧H2∧H3∧e=e∧N∧s'=s'))
theorem rg4 (tp:Di) (ko:Kp) {H1 H2 H3 H4 N:Prop} (h1:H1) (h2:H2) (h3:H3) (h4:H4) (m:N) (q:(H1∧H2∧H3∧H4∧e=e∧N∧s'=s')=goT ev Tryz.prog 6 100 (fnc f).ntmps bs c s tp ko e s':=by kernel_rfl):Rc bs f c s e s':=Reach.of_go qDg (q ▸ (⟨h1,h2,h3,h4,rfl,m,rfl⟩:H1∧H2∧H3∧H4∧e=e∧N∧s'=s'))
theorem rg6 (tp:Di) (ko:Kp) {H1 H2 H3 H4 H5 H6 N:Prop} (h1:H1) (h2:H2) (h3:H3) (h4:H4) (h5:H5) (h6:H6) (m:N) (q:(H1∧H2∧H3∧H4∧H5∧H6∧e=e∧N∧s'=s')=goT ev Tryz.prog 6 100 (fnc f).ntmps bs c s tp ko e s':=by kernel_rfl):Rc bs f c s e s':=Reach.of_go qDg (q ▸ (⟨h1,h2,h3,h4,h5,h6,rfl,m,rfl⟩:H1∧H2∧H3∧H4∧H5∧H6∧e=e∧N∧s'=s'))
end
section
variable (mv iv:Value) (mo io:Obj)
def hs:Nat→List Nat→IS
 | 0,_=>st [(3,.pv .nils),(7,.loc 1 0)] [(0,.raw mv mo),(1,.raw iv io)] 2 []
 | v+1,L=>st [(3,.arr 2 (v+1) (v+1)),(7,.loc 1 0)] (zK0 mv mo iv io (v+1) L) 3 []
def qs (n:Nat):Nat→List Nat→IS
 | 0,_=>st [(3,.pv .nils),(4,.pv (num n)),(7,.loc 1 0)] [(0,.raw mv mo),(1,.raw iv io)] 2 []
 | v+1,L=>st [(3,.arr 2 (v+1) (v+1)),(4,.pv (num n)),(7,.loc 1 0)] (zK0 mv mo iv io (v+1) L) 3 []
def zK1:Nat→List Nat→IS
 | 0,_=>st [(3,.pv .nils)] [(0,.raw mv mo)] 3 []
 | v+1,L=>st [(3,.arr 2 (v+1) (v+1))] [(0,.raw mv mo),(2,.arr (v+1) 1 3 (vN L))] 3 []
end
theorem lnA {v len:Nat} : ro (bif Nat.beq v v then some (V.pv (.int (.ofNat len))) else none)=some ⟨.pv (num len),none,false⟩:=by rw [qH1 rfl];rfl
theorem zBv {A:List (List PV)} {k v sz ty m:Nat} {c:List PV} (hk:A.length=k) (h0:0<sz) (h1:qY1 sz [pvL c]=true) (h2:qJl [pvL c]=true) (h3:k+1≤maxLen) (h4:(k+1) * m≤140737488355328) :
  (Nat.beq v v && Nat.ble k (pvE A).length && Nat.beq ty ty && Nat.beq sz sz && Nat.blt 0 sz && qY1 sz [pvL c] && qJl [pvL c] && Nat.ble (k+[pvL c].length) maxLen && Nat.ble ((k+[pvL c].length) * m) 140737488355328)=true:=by
 subst hk
 exact qEv h0 h1 h2 h3 h4
section
variable {mv iv:Value} {mo io:Obj}
theorem zBw (n v:Nat) (L:List Nat) (hv:L.length=v) (hb:v+1≤big) (hm:v+1≤maxLen) (hm':(v+1) * 8≤140737488355328) :
  ∃ A B,A++B=L∧(∀ x∈B,n<x)∧(∀ h:A≠[],A.getLast h≤n)∧Rc 1 33 r33 (qs mv iv mo io n v L) .normal (hs mv iv mo io (v+1) (A++n::B)):=by
 obtain⟨A,y,B,h1,h2,h3,h⟩:=qSm (mv:=mv) (mo:=mo) (iv:=iv) (io:=io) (n:=n) (v:=v+1) (len:=v+1) v L n [] hv (by simp;omega) hb
 rw [List.append_nil] at h1
 have h2:∀ x∈B,n<x:=fun x hx=>(h2 x hx).resolve_left (by simp)
 have hl:A.length+B.length=v:=by rw [← hv,← h1];simp
 have gl:(vN (A++y::B)).length=v+1:=by rw [zVa];simp;omega
 have g6:=ixA (n:=2) (v:=v+1) (k:=A.length) (len:=v+1) (es:=vN (A++y::B)) (by omega) (by omega)
 have g7:=stA (n:=2) (v:=v+1) (k:=A.length) (es:=vN (A++y::B)) (es':=vN (A++n::B)) (y:=.pv (num n)) (qSl A B y) (zVb A B y n)
 refine⟨A,B,h1,h2,h3,?_⟩
 rw [hv] at h
 cases v with
 | zero =>
  have e:=List.length_eq_zero_iff.1 hv
  subst e
  exact rg4 [(100007,.l k33 (.exit 2) (st (zX1 1 1 n A.length) (zK0 mv mo iv io 1 (A++y::B)) 3 [])),(42,.w ⟨.eloc 2 1 A.length 0,none,false⟩),(99999,.w ⟨.undef,some (2,.arr 1 1 3 (vN (A++n::B))),false⟩)] ⟨[3,7],[0,1,2],3,[]⟩ (qQn [ic n]) h g6 g7 (qQn ((A++n::B).map ic))
 | succ v =>
  have e1:vN (L++[n])=(vN L).take (v+1)++[pvL (ic n)]:=by
   have:=qZy (L.map ic) (ic n)
   rw [List.length_map,hv] at this
   rw [← this]
   show pvE ((L++[n]).map ic)=_
   rw [List.map_append]
   rfl
  have g5:=zBv (A:=L.map ic) (v:=v+1) (ty:=3) (m:=8) (c:=ic n) (k:=v+1) (by simpa using hv) (show 0<1 by decide) rfl rfl hm hm'
  have g8:qQp ((vN L).take (v+1)++[pvL (ic n)])=[]:=by rw [← e1];exact qQn ((L++[n]).map ic)
  have h:Lp 33 1 1 (st (zX1 (v+1+1) (v+1+1) n (v+1)) [(0,.raw mv mo),(1,.raw iv io),(2,.arr (v+1+1) 1 3 ((vN L).take (v+1)++[pvL (ic n)]))] 3 []) (.exit 2) (st (zX1 (v+1+1) (v+1+1) n A.length) (zK0 mv mo iv io (v+1+1) (A++y::B)) 3 []):=by rw [← e1];exact h
  exact rg6 [(13,.w ⟨.pv (num (v+1)),none,false⟩),(17,.ok),(100007,.l k33 (.exit 2) (st (zX1 (v+1+1) (v+1+1) n A.length) (zK0 mv mo iv io (v+1+1) (A++y::B)) 3 [])),(42,.w ⟨.eloc 2 (v+1+1) A.length 0,none,false⟩),(99999,.w ⟨.undef,some (2,.arr (v+1+1) 1 3 (vN (A++n::B))),false⟩)] ⟨[3,7],[0,1,2],3,[]⟩ (lnA (v:=v+1) (len:=v+1)) g5 g8 h g6 g7 (qQn ((A++n::B).map ic))
end
end Go.Proofs.YtmcockinhpiomaaGreatDoor
namespace Go.Proofs.YtmcockinhpiomaaGreatDoor
open Go.Lg
set_option maxRecDepth 100000
section
variable {f bs:Nat} {c:Code} {s s':IS} {e:AE}
theorem rz0 (tp:Di) (ko:Kp) (q:(e=e∧s'=s')=goT ev Tryz.prog 6 100 (fnc f).ntmps bs c s tp ko e s':=by kernel_rfl):Rc bs f c s e s':=Reach.of_go qDg (q ▸ (⟨rfl,rfl⟩:e=e∧s'=s'))
end
abbrev Asc (L:List Nat):Prop:=L.Pairwise (· < ·)
theorem qDj:∀ {L S:List Nat},Asc L→Asc S→(∀ x,x∈L↔x∈S)→L=S
 | [],[],_,_,_=>rfl
 | [],y::S,_,_,h=>absurd ((h y).2 (List.mem_cons_self ..)) (by simp)
 | x::L,[],_,_,h=>absurd ((h x).1 (List.mem_cons_self ..)) (by simp)
 | x::L,y::S,h1,h2,h=>by
  obtain⟨a1,b1⟩:=List.pairwise_cons.1 h1
  obtain⟨a2,b2⟩:=List.pairwise_cons.1 h2
  have e:x=y:=by
   rcases List.mem_cons.1 ((h x).1 (List.mem_cons_self ..)) with e|hx
   ·exact e
   rcases List.mem_cons.1 ((h y).2 (List.mem_cons_self ..)) with e|hy
   ·exact e.symm
   have:=a1 y hy
   have:=a2 x hx
   omega
  subst e
  rw [qDj b1 b2 fun z=>⟨fun hz=>(List.mem_cons.1 ((h z).1 (List.mem_cons_of_mem _ hz))).resolve_left (fun e=>by have:=a1 z hz;omega),fun hz=>(List.mem_cons.1 ((h z).2 (List.mem_cons_of_mem _ hz))).resolve_left (fun e=>by have:=a2 z hz;omega)⟩]
theorem qIw:∀ {S L:List Nat},Asc L→Asc S→(∀ x∈L,x∈S)→L.length≤S.length
 | S,[],_,_,_=>Nat.zero_le _
 | [],x::L,_,_,h=>absurd (h x (List.mem_cons_self ..)) (by simp)
 | y::S,x::L,h1,h2,h=>by
  obtain⟨a1,b1⟩:=List.pairwise_cons.1 h1
  obtain⟨a2,b2⟩:=List.pairwise_cons.1 h2
  by_cases e:x=y
  ·subst e
   exact Nat.succ_le_succ (qIw b1 b2 fun z hz=>(List.mem_cons.1 (h z (List.mem_cons_of_mem _ hz))).resolve_left (fun e=>by have:=a1 z hz;omega))
  ·have hx:x∈S:=(List.mem_cons.1 (h x (List.mem_cons_self ..))).resolve_left e
   have:=a2 x hx
   have:=qIw (S:=S) h1 b2 fun z hz=>(List.mem_cons.1 (h z hz)).resolve_left (fun e=>by
    rcases List.mem_cons.1 hz with rfl|hz
    ·omega
    ·have:=a1 z hz;omega)
   exact Nat.le_succ_of_le this
theorem zK2 {A B:List Nat} {n:Nat} (h:Asc (A++B)) (hn:n ∉ A++B) (h1:∀ x∈B,n<x) (h2:∀ h:A≠[],A.getLast h≤n):Asc (A++n::B):=by
 obtain⟨a,b,c⟩:=List.pairwise_append.1 h
 have ha:∀ x∈A,x<n:=by
  intro x hx
  have hne:A≠[]:=fun e=>by subst e;cases hx
  have hl:=h2 hne
  have hx':x≤A.getLast hne:=by
   have e:=List.dropLast_concat_getLast hne
   rw [← e] at hx a
   rcases List.mem_append.1 hx with hx|hx
   ·exact Nat.le_of_lt ((List.pairwise_append.1 a).2.2 x hx _ (by simp))
   ·simp at hx;omega
  have:x≠n:=fun e=>hn (List.mem_append_left _ (e ▸ hx))
  omega
 refine List.pairwise_append.2 ⟨a,List.pairwise_cons.2 ⟨h1,b⟩,fun x hx y hy => ?_⟩
 rcases List.mem_cons.1 hy with rfl|hy
 ·exact ha x hx
 ·exact c x hx y hy
abbrev km (b:Nat):Value:=.map (some b)
abbrev ki' (rb:Nat):Value:=.pointer (some ⟨rb,0,none⟩)
abbrev oi (b ck:Nat) (seen:Array Nat):Obj:=.mapIter (some b) ck seen ck
section
variable {X:qZ9} {b rb ck:Nat} {ms:Array MapEntry} {S:List Nat}
theorem zF2 {mv iv:Value} {mo io:Obj} (v:Nat) (L:List Nat) :
  Rc 1 33 (.seq c33 (.block 1 (.seq e33 r33))) ⟨((hs mv iv mo io v L).sl.put 8 (some .undef)).put 9 (some (.pv (.bool false))),(hs mv iv mo io v L).ob,(hs mv iv mo io v L).nx,(hs mv iv mo io v L).dt⟩ (.exit 0) (zK1 mv mo v L):=by
 cases v with
 | zero=>exact rz0 [] ⟨[3],[0],3,[]⟩
 | succ v=>exact rg0 [] ⟨[3],[0,2],3,[]⟩ (qQn (L.map ic))
theorem zF3 {mv iv:Value} {mo io io':Obj} (v:Nat) (L:List Nat) :
  Rc 1 33 c33 ⟨((hs mv iv mo io v L).sl.put 8 (some .undef)).put 9 (some (.pv (.bool true))),(hs mv iv mo io v L).ob.put 1 (some (.raw iv io')),(hs mv iv mo io v L).nx,(hs mv iv mo io v L).dt⟩ .normal (hs mv iv mo io' v L):=by
 cases v with
 | zero=>exact rz0 [] ⟨[3,7],[0,1],2,[]⟩
 | succ v=>exact rg0 [] ⟨[3,7],[0,1,2],3,[]⟩ (qQn (L.map ic))
theorem zF4 (hX:HX X ev Tryz.prog (fnc 33).ntmps 1) {mv iv:Value} {mo io:Obj} (v:Nat) (L:List Nat) (n:Nat) {σ:St} (h:Rel (hs mv iv mo io v L) σ) :
  ∃ τ,WkX X ⟨(4,.pv (num n))::(11,.pv (num n))::(10,.undef)::σ.slots,σ.objs,σ.used⟩ τ∧Rel (qs mv iv mo io n v L) τ:=by
 have h3:=((h.slotT 10 .undef).slotT 11 (.pv (num n))).slotT 4 (.pv (num n))
 cases v with
 | zero=>exact h3.keep hX ⟨[3,4,7],[0,1],2,[]⟩ (by kernel_rfl) True.intro (by kernel_rfl)
 | succ v=>exact h3.keep hX ⟨[3,4,7],[0,1,2],3,[]⟩ (by kernel_rfl) ⟨qQn (L.map ic),True.intro⟩ (by kernel_rfl)
theorem zHo {mv iv:Value} {mo io:Obj} (v:Nat) (L:List Nat) {σ:St} (h:Rel (hs mv iv mo io v L) σ):qZ0 σ.slots 7 = .loc 1 0∧qQd σ.objs 0=some (.raw mv mo)∧qQd σ.objs 1=some (.raw iv io):=by
 have h1:=h.sl 7
 have h2:=h.ob 0
 have h3:=h.ob 1
 cases v<;>exact⟨h1,h2,h3⟩
structure zF5 (ms:Array MapEntry) (seen:Array Nat) (L:List Nat):Prop where
 asc:Asc L
 mem:∀ x:Nat,x∈L ↔ ∃ e∈ms.toList,e.key = .int .i64 (.ofNat x)∧seen.contains e.born=true
structure zX2 (ms:Array MapEntry) (ck:Nat) (S:List Nat):Prop where
 hold:∀ x∈ms.toList,x.born<ck
 nd:(ms.toList.map (·.born)).Nodup
 kn:∀ e∈ms.toList,∃ z:Nat,e.key = .int .i64 (.ofNat z)
 inj:∀ e∈ms.toList,∀ e'∈ms.toList,e.key=e'.key→e=e'
 asc:Asc S
 mem:∀ x:Nat,x∈S ↔ ∃ e∈ms.toList,e.key = .int .i64 (.ofNat x)
 len:S.length≤8589934592
theorem qMh:∀ {l:List MapEntry},(l.map (·.born)).Nodup→∀ {e e':MapEntry},e∈l→e'∈l→e.born=e'.born→e=e'
 | x::l,h,e,e',he,he',hb=>by
  obtain⟨h1,h2⟩:=List.nodup_cons.1 h
  rcases List.mem_cons.1 he with k1|k1<;>rcases List.mem_cons.1 he' with k2|k2
  ·rw [k1,k2]
  ·exact absurd (List.mem_map.2 ⟨e',k2,by rw [← hb,k1]⟩) h1
  ·exact absurd (List.mem_map.2 ⟨e,k1,by rw [hb,k2]⟩) h1
  ·exact qMh h2 k1 k2 hb
theorem zVc (hX:HX X ev Tryz.prog (fnc 33).ntmps 1) (hM:zX2 ms ck S) (seen:Array Nat) (v:Nat) (L:List Nat) (σ:St) (hW:zF5 ms seen L) (hv:L.length=v) (hR:Rel (hs (km b) (ki' rb) (.map ms ck) (oi b ck seen) v L) σ) (Q:AEx→St→Prop)
  (q1:∀ σ',qIa (.exit 0) (zK1 (km b) (.map ms ck) S.length S) (.exit 0) σ'→Q (.exit 0) σ')
  (q2:∀ seen' L' σ',(leftOf ms seen').size<(leftOf ms seen).size→zF5 ms seen' L'→L'.length=v+1→Rel (hs (km b) (ki' rb) (.map ms ck) (oi b ck seen') (v+1) L') σ'→Q .normal σ'):AWP X b33 σ Q:=by
 have hnt:X.nt=44:=by rw [hX.nt];exact zF1
 have hsub:∀ x∈L,x∈S:=fun x hx=>by
  obtain⟨e,he,h1,_⟩:=(hW.mem x).1 hx
  exact (hM.mem x).2 ⟨e,he,h1⟩
 obtain⟨g1,g2,g3⟩:=zHo v L hR
 rw [zLk]
 refine AWP.seq ?_
 obtain⟨i,t1,t2,p1,p2,f1,f2,hn⟩:=zLl
 rw [hn]
 refine AWP.next (n:=0) (r:=1) (by decide) g1 g2 g3 hM.hold (Nat.le_refl _) (by rw [hnt];decide) (by rw [hnt];decide) ?_ ?_
 ·intro h0
  have e:L=S:=qDj hW.asc hM.asc fun x=>⟨fun hx=>hsub x hx,fun hx=>by
   obtain⟨e,he,h1⟩:=(hM.mem x).1 hx
   exact (hW.mem x).2 ⟨e,he,h1,all_seen ms seen h0 e he⟩⟩
  have hR1:=(hR.slotT 8 .undef).slotT 9 (.pv (.bool false))
  refine AWP.mono ((zF2 v L).awp X hX _ hR1) ?_
  rintro ae σ' ⟨rfl,h⟩
  rw [hv.symm,e] at h
  exact q1 σ' ⟨rfl,h⟩
 ·intro e he
  obtain⟨hem,hes⟩:=mem_left he
  obtain⟨n,hz⟩:=hM.kn e hem
  have hR1:=((hR.slotT 8 .undef).slotT 9 (.pv (.bool true))).objT 1 (.raw (ki' rb) (oi b ck (seen.push e.born)))
  refine AWP.seq (AWP.mono ((zF3 v L).awp X hX _ hR1) ?_)
  rintro ae σ' ⟨rfl,hR2⟩
  refine AWP.block (AWP.seq ?_)
  obtain⟨g1,g2,g3⟩:=zHo v L hR2
  obtain⟨i,t1,t2,t3,p1,p2,p3,f1,f2,f3,hn⟩:=zLm
  rw [hn]
  refine AWP.entry g1 g2 g3 hem hM.nd hz (by rw [hnt];decide) (by rw [hnt];decide) (by rw [hnt];decide) ?_
  obtain⟨τ,hw,hR3⟩:=zF4 hX v L n hR2
  have hnL:n ∉ L:=fun hn=>by
   obtain⟨e',he',h1,h2⟩:=(hW.mem n).1 hn
   rw [hM.inj e hem e' he' (hz.trans h1.symm),h2] at hes
   cases hes
  have hlt:=qIw hW.asc hM.asc hsub
  have hSl:=hM.len
  obtain⟨A,B,e1,h2,h3,hr⟩:=zBw (mv:=km b) (iv:=ki' rb) (mo:=.map ms ck) (io:=oi b ck (seen.push e.born)) n v L hv (by simp only [big];omega) (by simp only [maxLen];omega) (by omega)
  refine AWP.wkX hw (AWP.mono (hr.awp X hX τ hR3) ?_)
  rintro ae σ3 ⟨rfl,hR4⟩
  refine q2 (seen.push e.born) (A++n::B) σ3 (left_shrinks ms seen e he) ⟨zK2 (e1 ▸ hW.asc) (e1 ▸ hnL) h2 h3,fun x => ?_⟩ (by have:=congrArg List.length e1;simp at this ⊢;omega) hR4
  have hx:x∈A++n::B↔x=n∨x∈L:=by rw [← e1];simp;constructor<;>(rintro (h|h|h)<;>simp [h])
  rw [hx,hW.mem]
  constructor
  ·rintro (rfl|⟨e',he',h1,h2⟩)
   ·exact⟨e,hem,hz,by simp⟩
   ·exact⟨e',he',h1,by simp at h2 ⊢;exact .inl h2⟩
  ·rintro⟨e',he',h1,h2⟩
   by_cases hq:seen.contains e'.born=true
   ·exact .inr ⟨e',he',h1,hq⟩
   ·have hb:e'.born=e.born:=by simp at h2 hq;exact h2.resolve_left hq
    have:=qMh hM.nd he' hem hb
    subst this
    rw [hz] at h1
    left
    simp at h1
    omega
theorem zVd (hX:HX X ev Tryz.prog (fnc 33).ntmps 1) (hM:zX2 ms ck S):∀ (k:Nat) (seen:Array Nat) (v:Nat) (L:List Nat) (σ:St),(leftOf ms seen).size≤k→zF5 ms seen L→L.length=v →
   Rel (hs (km b) (ki' rb) (.map ms ck) (oi b ck seen) v L) σ→qKk X b33 (qIa (.exit 0) (zK1 (km b) (.map ms ck) S.length S)) (k+1) σ
 | 0,seen,v,L,σ,hk,hW,hv,hR=>qXd (zVc hX hM seen v L σ hW hv hR _ (fun _ h=>h) (fun _ _ _ h=>by omega))
 | k+1,seen,v,L,σ,hk,hW,hv,hR=>qXd (zVc hX hM seen v L σ hW hv hR _ (fun _ h=>h) (fun seen' L' σ' h hW' hv' hR'=>zVd hX hM k seen' (v+1) L' σ' (by omega) hW' hv' hR'))
end
end Go.Proofs.YtmcockinhpiomaaGreatDoor
