/- Contracts of functions; no conditions. -/
import Derived.Test.YtnkoaepelgbhfaaGreatDoorPC8
import Derived.Maps.RangeRun
import Derived.Test.YtnkoaepelgbhfaaGreatDoorPB3
set_option linter.all false
set_option maxHeartbeats 4000000
namespace Go.Proofs.YtnkoaepelgbhfaaGreatDoor
open Go.Lg
set_option maxRecDepth 100000
theorem Cr {L:List Int} (hL:Dk L):zB L 0:=by
 intro Z ls g hs a hS hZ ha;have hm:=zA;have hbg:=kA;have e20:QA=1048576:=rfl;have eW:=SC;have hz1:=hS.z;have hgl:=hS.gl;have hhl:=hS.hl;have e1:cp 0=300:=rfl;have e2:cm 0=QA:=rfl;obtain⟨w,c,hw,hc,gw⟩:=nx hL ha (n:=4) (by omega) (by omega);obtain⟨x,d,q,hd,gx⟩:=xC hL (t:=.nat) (g:=g) (by decide) hS.gs (by omega) hc;have cx:=q.cnt;have mx:=q.mx;have sx:=q.tsz;rcases w with _|_|w
 ·cases hs with
  | nil=>exact⟨.refl x,d,⟨by simp only [Pf.cnt];omega,by simp only [Pf.tsz];omega,by simp only [Pf.mx];omega,by simp only [Pf.dp,lN];omega⟩,hd,o4 1 [(36,.Y),(388,.D L c (.pv (num 0))),(415,.D L d (.pv x.p)),(416,.r (Pf.refl x).p)] oA gw gx (sB x)⟩
  | cons f r =>
   have hr:=hS.hl;obtain⟨i,e,hi,he,gi⟩:=nx hL hc (n:=((f::r).map Fm.c).length) (by simp) (by simp at hr ⊢;omega);exact⟨.leaf false i,e,⟨by simp only [Pf.cnt];omega,Nat.zero_le _,Nat.zero_le _,Nat.zero_le _⟩,he,o4 1 [(36,.Y),(388,.D L c (.pv (num 0))),(399,.D L e (.pv (num i))),(400,.r (Pf.leaf false i).p)] oA gw gi (CF i)⟩
 ·cases ls with
  | nil=>exact⟨.refl x,d,⟨by simp only [Pf.cnt];omega,by simp only [Pf.tsz];omega,by simp only [Pf.mx];omega,by simp only [Pf.dp,lN];omega⟩,hd,o4 1 [(36,.Y),(388,.D L c (.pv (num 1))),(415,.D L d (.pv x.p)),(416,.r (Pf.refl x).p)] oA gw gx (sB x)⟩
  | cons f r =>
   have hr:=hS.ll;obtain⟨i,e,hi,he,gi⟩:=nx hL hc (n:=((f::r).map Fm.c).length) (by simp) (by simp at hr ⊢;omega);exact⟨.leaf true i,e,⟨by simp only [Pf.cnt];omega,Nat.zero_le _,Nat.zero_le _,Nat.zero_le _⟩,he,o3 1 [(36,.Y),(388,.D L c (.pv (num 1))),(409,.D L e (.pv (num i)))] oA gw gi⟩
 ·exact⟨.refl x,d,⟨by simp only [Pf.cnt];omega,by simp only [Pf.tsz];omega,by simp only [Pf.mx];omega,by simp only [Pf.dp,lN];omega⟩,hd,o4 1 [(36,.Y),(388,.D L c (.pv (num (w+2)))),(415,.D L d (.pv x.p)),(416,.r (Pf.refl x).p)] oA gw gx (sB x)⟩
theorem Dr {L:List Int} (hL:Dk L) {k:Nat} (hk:zB L k) (hkl:k<=9) {Z:Nat} {ls:List Fm} {g:List Ty} {hs:List Fm} {a:Nat} (hS:S19 Z ls g hs) (hZ:Z+cm (k+1)<=281474976710656) (ha:a<=L.length) (hg:¬ g.length<10):∃ (p:Pf) (b:Nat),PG (cp (k+1)) (Z+cm (k+1)) ((k+1)+2) p/\b<=L.length/\wD L ls g hs (k+1) a p b:=by
 have hm:=zA;have hbg:=kA;have e20:QA=1048576:=rfl;have eW:=SC;have hz1:=hS.z;have hgl:=hS.gl;have hhl:=hS.hl;have e1:cp (k+1)=2 * cp k+10000:=rfl;have e2:cm (k+1)=2 * cm k+YB+4 * QA:=rfl;have e3:=TC k;have gs:=uB (a:=k+1) (by omega) (by omega);have b1:uA (.ofNat (g.map Ty.c).length) (.ofNat 10)=false:=JA (by simp;omega);obtain⟨w,c,hw,hc,gw⟩:=nx hL ha (n:=4) (by omega) (by omega);obtain⟨x,d,q,hd,gx⟩:=xC hL (t:=.nat) (g:=g) (by decide) hS.gs (by omega) hc;have cx:=q.cnt;have mx:=q.mx;have sx:=q.tsz;rcases w with _|_|w
 ·cases hs with
  | nil=>exact⟨.refl x,d,⟨by simp only [Pf.cnt];omega,by simp only [Pf.tsz];omega,by simp only [Pf.mx];omega,by simp only [Pf.dp,lN];omega⟩,hd,o5 1 [(36,.Y),(43,.H),(388,.D L c (.pv (num 0))),(415,.D L d (.pv x.p)),(416,.r (Pf.refl x).p)] oA b1 gw gx (sB x)⟩
  | cons f r =>
   have hr:=hS.hl;obtain⟨i,e,hi,he,gi⟩:=nx hL hc (n:=((f::r).map Fm.c).length) (by simp) (by simp at hr ⊢;omega);exact⟨.leaf false i,e,⟨by simp only [Pf.cnt];omega,Nat.zero_le _,Nat.zero_le _,Nat.zero_le _⟩,he,o5 1 [(36,.Y),(43,.H),(388,.D L c (.pv (num 0))),(399,.D L e (.pv (num i))),(400,.r (Pf.leaf false i).p)] oA b1 gw gi (CF i)⟩
 ·cases ls with
  | nil=>exact⟨.refl x,d,⟨by simp only [Pf.cnt];omega,by simp only [Pf.tsz];omega,by simp only [Pf.mx];omega,by simp only [Pf.dp,lN];omega⟩,hd,o5 1 [(36,.Y),(43,.H),(388,.D L c (.pv (num 1))),(415,.D L d (.pv x.p)),(416,.r (Pf.refl x).p)] oA b1 gw gx (sB x)⟩
  | cons f r =>
   have hr:=hS.ll;obtain⟨i,e,hi,he,gi⟩:=nx hL hc (n:=((f::r).map Fm.c).length) (by simp) (by simp at hr ⊢;omega);exact⟨.leaf true i,e,⟨by simp only [Pf.cnt];omega,Nat.zero_le _,Nat.zero_le _,Nat.zero_le _⟩,he,o4 1 [(36,.Y),(43,.H),(388,.D L c (.pv (num 1))),(409,.D L e (.pv (num i)))] oA b1 gw gi⟩
 ·exact⟨.refl x,d,⟨by simp only [Pf.cnt];omega,by simp only [Pf.tsz];omega,by simp only [Pf.mx];omega,by simp only [Pf.dp,lN];omega⟩,hd,o5 1 [(36,.Y),(43,.H),(388,.D L c (.pv (num (w+2)))),(415,.D L d (.pv x.p)),(416,.r (Pf.refl x).p)] oA b1 gw gx (sB x)⟩
theorem Er {L:List Int} (hL:Dk L) {k:Nat} (hk:zB L k) (hkl:k<=9) {Z:Nat} {ls:List Fm} {g:List Ty} {hs:List Fm} {a:Nat} (hS:S19 Z ls g hs) (hZ:Z+cm (k+1)<=281474976710656) (ha:a<=L.length) (hg:g.length<10) (hh:¬ hs.length<10):∃ (p:Pf) (b:Nat),PG (cp (k+1)) (Z+cm (k+1)) ((k+1)+2) p/\b<=L.length/\wD L ls g hs (k+1) a p b:=by
 have hm:=zA;have hbg:=kA;have e20:QA=1048576:=rfl;have eW:=SC;have hz1:=hS.z;have hgl:=hS.gl;have hhl:=hS.hl;have e1:cp (k+1)=2 * cp k+10000:=rfl;have e2:cm (k+1)=2 * cm k+YB+4 * QA:=rfl;have e3:=TC k;have gs:=uB (a:=k+1) (by omega) (by omega);have b1:uA (.ofNat (g.map Ty.c).length) (.ofNat 10)=true:=cA (by simpa using hg);have b2:uA (.ofNat (hs.map Fm.c).length) (.ofNat 10)=false:=JA (by simp;omega);obtain⟨w,c,hw,hc,gw⟩:=nx hL ha (n:=4) (by omega) (by omega);obtain⟨x,d,q,hd,gx⟩:=xC hL (t:=.nat) (g:=g) (by decide) hS.gs (by omega) hc;have cx:=q.cnt;have mx:=q.mx;have sx:=q.tsz;rcases w with _|_|w
 ·cases hs with
  | nil=>exact⟨.refl x,d,⟨by simp only [Pf.cnt];omega,by simp only [Pf.tsz];omega,by simp only [Pf.mx];omega,by simp only [Pf.dp,lN];omega⟩,hd,o6 1 [(36,.Y),(43,.G),(49,.H),(388,.D L c (.pv (num 0))),(415,.D L d (.pv x.p)),(416,.r (Pf.refl x).p)] oA b1 b2 gw gx (sB x)⟩
  | cons f r =>
   have hr:=hS.hl;obtain⟨i,e,hi,he,gi⟩:=nx hL hc (n:=((f::r).map Fm.c).length) (by simp) (by simp at hr ⊢;omega);exact⟨.leaf false i,e,⟨by simp only [Pf.cnt];omega,Nat.zero_le _,Nat.zero_le _,Nat.zero_le _⟩,he,o6 1 [(36,.Y),(43,.G),(49,.H),(388,.D L c (.pv (num 0))),(399,.D L e (.pv (num i))),(400,.r (Pf.leaf false i).p)] oA b1 b2 gw gi (CF i)⟩
 ·cases ls with
  | nil=>exact⟨.refl x,d,⟨by simp only [Pf.cnt];omega,by simp only [Pf.tsz];omega,by simp only [Pf.mx];omega,by simp only [Pf.dp,lN];omega⟩,hd,o6 1 [(36,.Y),(43,.G),(49,.H),(388,.D L c (.pv (num 1))),(415,.D L d (.pv x.p)),(416,.r (Pf.refl x).p)] oA b1 b2 gw gx (sB x)⟩
  | cons f r =>
   have hr:=hS.ll;obtain⟨i,e,hi,he,gi⟩:=nx hL hc (n:=((f::r).map Fm.c).length) (by simp) (by simp at hr ⊢;omega);exact⟨.leaf true i,e,⟨by simp only [Pf.cnt];omega,Nat.zero_le _,Nat.zero_le _,Nat.zero_le _⟩,he,o5 1 [(36,.Y),(43,.G),(49,.H),(388,.D L c (.pv (num 1))),(409,.D L e (.pv (num i)))] oA b1 b2 gw gi⟩
 ·exact⟨.refl x,d,⟨by simp only [Pf.cnt];omega,by simp only [Pf.tsz];omega,by simp only [Pf.mx];omega,by simp only [Pf.dp,lN];omega⟩,hd,o6 1 [(36,.Y),(43,.G),(49,.H),(388,.D L c (.pv (num (w+2)))),(415,.D L d (.pv x.p)),(416,.r (Pf.refl x).p)] oA b1 b2 gw gx (sB x)⟩
theorem Fr {L:List Int} (hL:Dk L) {k:Nat} (hk:zB L k) (hkl:k<=9) {Z:Nat} {ls:List Fm} {g:List Ty} {hs:List Fm} {a:Nat} (hS:S19 Z ls g hs) (hZ:Z+cm (k+1)<=281474976710656) (ha:a<=L.length) (hg:g.length<10) (hh:hs.length<10) {b:Nat} (hb:b<=L.length) (gv:O 21 [.loc 0 0,.pv (num 17)] [(0,dk L a)] (.pv (num 0)) [(0,dk L b)]):∃ (p:Pf) (b:Nat),PG (cp (k+1)) (Z+cm (k+1)) ((k+1)+2) p/\b<=L.length/\wD L ls g hs (k+1) a p b:=by
 have hm:=zA;have hbg:=kA;have e20:QA=1048576:=rfl;have eW:=SC;have hz1:=hS.z;have hgl:=hS.gl;have hhl:=hS.hl;have e1:cp (k+1)=2 * cp k+10000:=rfl;have e2:cm (k+1)=2 * cm k+YB+4 * QA:=rfl;have e3:=TC k;have gs:=uB (a:=k+1) (by omega) (by omega);have b1:uA (.ofNat (g.map Ty.c).length) (.ofNat 10)=true:=cA (by simpa using hg);have b2:uA (.ofNat (hs.map Fm.c).length) (.ofNat 10)=true:=cA (by simpa using hh);obtain⟨p,c,q1,hc,g1⟩:=hk Z ls g hs b hS (by omega) hb;obtain⟨r,d,q2,hd,g2⟩:=hk Z ls g hs c hS (by omega) hc;have:=q1.cnt;have:=q1.tsz;have:=q1.mx;have:=q1.dp;have:=q2.cnt;have:=q2.tsz;have:=q2.mx;have:=q2.dp;exact⟨.p2 .andI p r,d,⟨by simp only [Pf.cnt,Fm.cnt,DB,lB,Tm.cnt];omega,by simp only [Pf.tsz,Fm.tsz,MB,LB,Tm.tsz,Ty.size];omega,by simp only [Pf.mx,Fm.mx,Tm.mx];omega,by simp only [Pf.dp,lN];omega⟩,hd,o9 1 [(36,.Y),(43,.G),(49,.G),(52,.D L b (.pv (num 0))),(59,.z k),(60,.D L c (.pv p.p)),(65,.z k),(66,.D L d (.pv r.p)),(68,.r (Pf.p2 .andI p r).p)] oA b1 b2 gv gs g1 gs g2 (GH 3 p r)⟩
theorem Gr {L:List Int} (hL:Dk L) {k:Nat} (hk:zB L k) (hkl:k<=9) {Z:Nat} {ls:List Fm} {g:List Ty} {hs:List Fm} {a:Nat} (hS:S19 Z ls g hs) (hZ:Z+cm (k+1)<=281474976710656) (ha:a<=L.length) (hg:g.length<10) (hh:hs.length<10) {b:Nat} (hb:b<=L.length) (gv:O 21 [.loc 0 0,.pv (num 17)] [(0,dk L a)] (.pv (num 1)) [(0,dk L b)]):∃ (p:Pf) (b:Nat),PG (cp (k+1)) (Z+cm (k+1)) ((k+1)+2) p/\b<=L.length/\wD L ls g hs (k+1) a p b:=by
 have hm:=zA;have hbg:=kA;have e20:QA=1048576:=rfl;have eW:=SC;have hz1:=hS.z;have hgl:=hS.gl;have hhl:=hS.hl;have e1:cp (k+1)=2 * cp k+10000:=rfl;have e2:cm (k+1)=2 * cm k+YB+4 * QA:=rfl;have e3:=TC k;have gs:=uB (a:=k+1) (by omega) (by omega);have b1:uA (.ofNat (g.map Ty.c).length) (.ofNat 10)=true:=cA (by simpa using hg);have b2:uA (.ofNat (hs.map Fm.c).length) (.ofNat 10)=true:=cA (by simpa using hh);obtain⟨v,c0,hv,hc0,gw⟩:=nx hL hb (n:=2) (by omega) (by omega);obtain⟨p,c,q1,hc,g1⟩:=hk Z ls g hs c0 hS (by omega) hc0;obtain⟨r,d,q2,hd,g2⟩:=hk Z ls g hs c hS (by omega) hc;have:=q1.cnt;have:=q1.tsz;have:=q1.mx;have:=q1.dp;have:=q2.cnt;have:=q2.tsz;have:=q2.mx;have:=q2.dp;rcases v with _|_|v
 ·exact⟨.p1 .andL (.p2 .andI p r),d,⟨by simp only [Pf.cnt,Fm.cnt,DB,lB,Tm.cnt];omega,by simp only [Pf.tsz,Fm.tsz,MB,LB,Tm.tsz,Ty.size];omega,by simp only [Pf.mx,Fm.mx,Tm.mx];omega,by simp only [Pf.dp,lN];omega⟩,hd,bH 1 [(36,.Y),(43,.G),(49,.G),(52,.D L b (.pv (num 1))),(72,.D L c0 (.pv (num 0))),(78,.z k),(79,.D L c (.pv p.p)),(84,.z k),(85,.D L d (.pv r.p)),(87,.r (Pf.p2 .andI p r).p),(89,.r (Pf.p1 .andL (.p2 .andI p r)).p)] oA b1 b2 gv gw gs g1 gs g2 (GH 3 p r) (VM 4 (.p2 .andI p r))⟩
 ·exact⟨.p1 .andR (.p2 .andI p r),d,⟨by simp only [Pf.cnt,Fm.cnt,DB,lB,Tm.cnt];omega,by simp only [Pf.tsz,Fm.tsz,MB,LB,Tm.tsz,Ty.size];omega,by simp only [Pf.mx,Fm.mx,Tm.mx];omega,by simp only [Pf.dp,lN];omega⟩,hd,bH 1 [(36,.Y),(43,.G),(49,.G),(52,.D L b (.pv (num 1))),(72,.D L c0 (.pv (num 1))),(78,.z k),(79,.D L c (.pv p.p)),(84,.z k),(85,.D L d (.pv r.p)),(87,.r (Pf.p2 .andI p r).p),(89,.r (Pf.p1 .andR (.p2 .andI p r)).p)] oA b1 b2 gv gw gs g1 gs g2 (GH 3 p r) (VM 5 (.p2 .andI p r))⟩
 ·omega
theorem Hr {L:List Int} (hL:Dk L) {k:Nat} (hk:zB L k) (hkl:k<=9) {Z:Nat} {ls:List Fm} {g:List Ty} {hs:List Fm} {a:Nat} (hS:S19 Z ls g hs) (hZ:Z+cm (k+1)<=281474976710656) (ha:a<=L.length) (hg:g.length<10) (hh:hs.length<10) {b:Nat} (hb:b<=L.length) (gv:O 21 [.loc 0 0,.pv (num 17)] [(0,dk L a)] (.pv (num 2)) [(0,dk L b)]):∃ (p:Pf) (b:Nat),PG (cp (k+1)) (Z+cm (k+1)) ((k+1)+2) p/\b<=L.length/\wD L ls g hs (k+1) a p b:=by
 have hm:=zA;have hbg:=kA;have e20:QA=1048576:=rfl;have eW:=SC;have hz1:=hS.z;have hgl:=hS.gl;have hhl:=hS.hl;have e1:cp (k+1)=2 * cp k+10000:=rfl;have e2:cm (k+1)=2 * cm k+YB+4 * QA:=rfl;have e3:=TC k;have gs:=uB (a:=k+1) (by omega) (by omega);have b1:uA (.ofNat (g.map Ty.c).length) (.ofNat 10)=true:=cA (by simpa using hg);have b2:uA (.ofNat (hs.map Fm.c).length) (.ofNat 10)=true:=cA (by simpa using hh);obtain⟨f,c,qf,hc,g1⟩:=xr hL hS.gs (by omega) hb;have ff:=qf.fbd (by omega) (by omega) hz1;have mf:=ff.2.2;obtain⟨p,d,q1,hd,g2⟩:=hk Z ls g (hs++[f]) c (hS.with ff (Nat.le_refl _) hh) (by omega) hc;have:=q1.cnt;have:=q1.tsz;have:=q1.mx;have:=q1.dp;have:=qf.cnt;have:=qf.tsz;exact⟨.impI f p,d,⟨by simp only [Pf.cnt,Fm.cnt,DB,lB,Tm.cnt];omega,by simp only [Pf.tsz,Fm.tsz,MB,LB,Tm.tsz,Ty.size];omega,by simp only [Pf.mx,Fm.mx,Tm.mx];omega,by simp only [Pf.dp,lN];omega⟩,hd,o9 1 [(36,.Y),(43,.G),(49,.G),(52,.D L b (.pv (num 2))),(95,.D L c (.pv f.p)),(101,.r (ZA g (hs++[f]))),(103,.z k),(104,.D L d (.pv p.p)),(105,.r (Pf.impI f p).p)] oA b1 b2 gv g1 (aX g hs f (by omega)) gs g2 (uc f p)⟩
theorem Ir (H:MF) {L:List Int} (hL:Dk L) {k:Nat} (hk:zB L k) (hkl:k<=9) {Z:Nat} {ls:List Fm} {g:List Ty} {hs:List Fm} {a:Nat} (hS:S19 Z ls g hs) (hZ:Z+cm (k+1)<=281474976710656) (ha:a<=L.length) (hg:g.length<10) (hh:hs.length<10) {b:Nat} (hb:b<=L.length) (gv:O 21 [.loc 0 0,.pv (num 17)] [(0,dk L a)] (.pv (num 3)) [(0,dk L b)]):∃ (p:Pf) (b:Nat),PG (cp (k+1)) (Z+cm (k+1)) ((k+1)+2) p/\b<=L.length/\wD L ls g hs (k+1) a p b:=by
 have hm:=zA;have hbg:=kA;have e20:QA=1048576:=rfl;have eW:=SC;have hz1:=hS.z;have hgl:=hS.gl;have hhl:=hS.hl;have e1:cp (k+1)=2 * cp k+10000:=rfl;have e2:cm (k+1)=2 * cm k+YB+4 * QA:=rfl;have e3:=TC k;have gs:=uB (a:=k+1) (by omega) (by omega);have b1:uA (.ofNat (g.map Ty.c).length) (.ofNat 10)=true:=cA (by simpa using hg);have b2:uA (.ofNat (hs.map Fm.c).length) (.ofNat 10)=true:=cA (by simpa using hh);obtain⟨p,c,q1,hc0,g1⟩:=hk Z ls g hs b hS (by omega) hb;have:=q1.cnt;have:=q1.tsz;have:=q1.mx;have:=q1.dp;obtain⟨r,g2,qr⟩:=FT H hS q1 (by omega) hZ;have e4:=HN k (by omega)
 cases r with
 | er n =>
  obtain⟨w,c1,hw,hc,gw⟩:=nx hL hc0 (n:=4) (by omega) (by omega);obtain⟨x,d,q,hd,gx⟩:=xC hL (t:=.nat) (g:=g) (by decide) hS.gs (by omega) hc;have cx:=q.cnt;have mx:=q.mx;have sx:=q.tsz;rcases w with _|_|w
  ·cases hs with
   | nil=>exact⟨.refl x,d,⟨by simp only [Pf.cnt];omega,by simp only [Pf.tsz];omega,by simp only [Pf.mx];omega,by simp only [Pf.dp,lN];omega⟩,hd,zC 1 [(36,.Y),(43,.G),(49,.G),(52,.D L b (.pv (num 3))),(112,.z k),(113,.D L c (.pv p.p)),(118,.r (PR.er n).p),(388,.D L c1 (.pv (num 0))),(415,.D L d (.pv x.p)),(416,.r (Pf.refl x).p)] oA b1 b2 gv gs g1 g2 gw gx (sB x)⟩
   | cons f r =>
    have hr:=hS.hl;obtain⟨i,e,hi,he,gi⟩:=nx hL hc (n:=((f::r).map Fm.c).length) (by simp) (by simp at hr ⊢;omega);exact⟨.leaf false i,e,⟨by simp only [Pf.cnt];omega,Nat.zero_le _,Nat.zero_le _,Nat.zero_le _⟩,he,zC 1 [(36,.Y),(43,.G),(49,.G),(52,.D L b (.pv (num 3))),(112,.z k),(113,.D L c (.pv p.p)),(118,.r (PR.er n).p),(388,.D L c1 (.pv (num 0))),(399,.D L e (.pv (num i))),(400,.r (Pf.leaf false i).p)] oA b1 b2 gv gs g1 g2 gw gi (CF i)⟩
  ·cases ls with
   | nil=>exact⟨.refl x,d,⟨by simp only [Pf.cnt];omega,by simp only [Pf.tsz];omega,by simp only [Pf.mx];omega,by simp only [Pf.dp,lN];omega⟩,hd,zC 1 [(36,.Y),(43,.G),(49,.G),(52,.D L b (.pv (num 3))),(112,.z k),(113,.D L c (.pv p.p)),(118,.r (PR.er n).p),(388,.D L c1 (.pv (num 1))),(415,.D L d (.pv x.p)),(416,.r (Pf.refl x).p)] oA b1 b2 gv gs g1 g2 gw gx (sB x)⟩
   | cons f r =>
    have hr:=hS.ll;obtain⟨i,e,hi,he,gi⟩:=nx hL hc (n:=((f::r).map Fm.c).length) (by simp) (by simp at hr ⊢;omega);exact⟨.leaf true i,e,⟨by simp only [Pf.cnt];omega,Nat.zero_le _,Nat.zero_le _,Nat.zero_le _⟩,he,o9 1 [(36,.Y),(43,.G),(49,.G),(52,.D L b (.pv (num 3))),(112,.z k),(113,.D L c (.pv p.p)),(118,.r (PR.er n).p),(388,.D L c1 (.pv (num 1))),(409,.D L e (.pv (num i)))] oA b1 b2 gv gs g1 g2 gw gi⟩
  ·exact⟨.refl x,d,⟨by simp only [Pf.cnt];omega,by simp only [Pf.tsz];omega,by simp only [Pf.mx];omega,by simp only [Pf.dp,lN];omega⟩,hd,zC 1 [(36,.Y),(43,.G),(49,.G),(52,.D L b (.pv (num 3))),(112,.z k),(113,.D L c (.pv p.p)),(118,.r (PR.er n).p),(388,.D L c1 (.pv (num (w+2)))),(415,.D L d (.pv x.p)),(416,.r (Pf.refl x).p)] oA b1 b2 gv gs g1 g2 gw gx (sB x)⟩
 | ok f u =>
  have hF:=qr f u rfl;have c1:=hF.1;have c2:=hF.2.1;have c3:=hF.2.2;obtain⟨s,d,q2,hd,g3⟩:=hk (Z+cm k+YB) ls g (hs++[f]) c (hS.with hF (by omega) hh) (by omega) hc0;have:=q2.cnt;have:=q2.tsz;have:=q2.mx;have:=q2.dp;exact⟨.p2 .impE (.impI f s) p,d,⟨by simp only [Pf.cnt,Fm.cnt,DB,lB,Tm.cnt];omega,by simp only [Pf.tsz,Fm.tsz,MB,LB,Tm.tsz,Ty.size];omega,by simp only [Pf.mx,Fm.mx,Tm.mx];omega,by simp only [Pf.dp,lN];omega⟩,hd,RH 1 [(36,.Y),(43,.G),(49,.G),(52,.D L b (.pv (num 3))),(112,.z k),(113,.D L c (.pv p.p)),(118,.r (PR.ok f u).p),(130,.r (ZA g (hs++[f]))),(132,.z k),(133,.D L d (.pv s.p)),(134,.r (Pf.impI f s).p),(137,.r (Pf.p2 .impE (.impI f s) p).p)] oA b1 b2 gv gs g1 g2 (aX g hs f (by omega)) gs g3 (uc f s) (GH 7 (.impI f s) p)⟩
theorem Jr {L:List Int} (hL:Dk L) {k:Nat} (hk:zB L k) (hkl:k<=9) {Z:Nat} {ls:List Fm} {g:List Ty} {hs:List Fm} {a:Nat} (hS:S19 Z ls g hs) (hZ:Z+cm (k+1)<=281474976710656) (ha:a<=L.length) (hg:g.length<10) (hh:hs.length<10) {b:Nat} (hb:b<=L.length) (gv:O 21 [.loc 0 0,.pv (num 17)] [(0,dk L a)] (.pv (num 4)) [(0,dk L b)]):∃ (p:Pf) (b:Nat),PG (cp (k+1)) (Z+cm (k+1)) ((k+1)+2) p/\b<=L.length/\wD L ls g hs (k+1) a p b:=by
 have hm:=zA;have hbg:=kA;have e20:QA=1048576:=rfl;have eW:=SC;have hz1:=hS.z;have hgl:=hS.gl;have hhl:=hS.hl;have e1:cp (k+1)=2 * cp k+10000:=rfl;have e2:cm (k+1)=2 * cm k+YB+4 * QA:=rfl;have e3:=TC k;have gs:=uB (a:=k+1) (by omega) (by omega);have b1:uA (.ofNat (g.map Ty.c).length) (.ofNat 10)=true:=cA (by simpa using hg);have b2:uA (.ofNat (hs.map Fm.c).length) (.ofNat 10)=true:=cA (by simpa using hh);obtain⟨t,c,zt,hc,g1⟩:=zD hL 1 (by omega) hb;have zt:t.size<=3:=zt;obtain⟨p,d,q1,hd,g2⟩:=hk (Z+1) ls (g++[t]) (XB hs) c (hS.below zt hg) (by omega) hc;have:=q1.cnt;have:=q1.tsz;have:=q1.mx;have:=q1.dp;exact⟨.all false t p,d,⟨by simp only [Pf.cnt,Fm.cnt,DB,lB,Tm.cnt];omega,by simp only [Pf.tsz,Fm.tsz,MB,LB,Tm.tsz,Ty.size];omega,by simp only [Pf.mx,Fm.mx,Tm.mx];omega,by simp only [Pf.dp,lN];omega⟩,hd,o9 1 [(36,.Y),(43,.G),(49,.G),(52,.D L b (.pv (num 4))),(141,.D L c (.pv t.p)),(148,.r (ZA (g++[t]) (XB hs))),(150,.z k),(151,.D L d (.pv p.p)),(152,.r (Pf.all false t p).p)] oA b1 b2 gv g1 (GN g hs t (by omega) (by omega) (λ f hf=>by have:=hS.hb f hf;rw [hm];omega)) gs g2 (uP false t p)⟩
theorem Kr {L:List Int} (hL:Dk L) {k:Nat} (hk:zB L k) (hkl:k<=9) {Z:Nat} {ls:List Fm} {g:List Ty} {hs:List Fm} {a:Nat} (hS:S19 Z ls g hs) (hZ:Z+cm (k+1)<=281474976710656) (ha:a<=L.length) (hg:g.length<10) (hh:hs.length<10) {b:Nat} (hb:b<=L.length) (gv:O 21 [.loc 0 0,.pv (num 17)] [(0,dk L a)] (.pv (num 5)) [(0,dk L b)]):∃ (p:Pf) (b:Nat),PG (cp (k+1)) (Z+cm (k+1)) ((k+1)+2) p/\b<=L.length/\wD L ls g hs (k+1) a p b:=by
 have hm:=zA;have hbg:=kA;have e20:QA=1048576:=rfl;have eW:=SC;have hz1:=hS.z;have hgl:=hS.gl;have hhl:=hS.hl;have e1:cp (k+1)=2 * cp k+10000:=rfl;have e2:cm (k+1)=2 * cm k+YB+4 * QA:=rfl;have e3:=TC k;have gs:=uB (a:=k+1) (by omega) (by omega);have b1:uA (.ofNat (g.map Ty.c).length) (.ofNat 10)=true:=cA (by simpa using hg);have b2:uA (.ofNat (hs.map Fm.c).length) (.ofNat 10)=true:=cA (by simpa using hh);obtain⟨t,c,zt,hc,g1⟩:=zD hL 1 (by omega) hb;have zt:t.size<=3:=zt;obtain⟨x,c0,qx,hc0,gx⟩:=xC hL (t:=t) (g:=g) zt hS.gs (by omega) hc;obtain⟨p,d,q1,hd,g2⟩:=hk (Z+1) ls (g++[t]) (XB hs) c0 (hS.below zt hg) (by omega) hc0;have:=q1.cnt;have:=q1.tsz;have:=q1.mx;have:=q1.dp;have:=qx.cnt;have:=qx.tsz;have:=qx.mx;exact⟨.ins false x (.all false t p),d,⟨by simp only [Pf.cnt,Fm.cnt,DB,lB,Tm.cnt];omega,by simp only [Pf.tsz,Fm.tsz,MB,LB,Tm.tsz,Ty.size];omega,by simp only [Pf.mx,Fm.mx,Tm.mx];omega,by simp only [Pf.dp,lN];omega⟩,hd,bH 1 [(36,.Y),(43,.G),(49,.G),(52,.D L b (.pv (num 5))),(156,.D L c (.pv t.p)),(161,.D L c0 (.pv x.p)),(168,.r (ZA (g++[t]) (XB hs))),(170,.z k),(171,.D L d (.pv p.p)),(172,.r (Pf.all false t p).p),(173,.r (Pf.ins false x (.all false t p)).p)] oA b1 b2 gv g1 gx (GN g hs t (by omega) (by omega) (λ f hf=>by have:=hS.hb f hf;rw [hm];omega)) gs g2 (uP false t p) (bc false x (.all false t p))⟩
theorem Lr {L:List Int} (hL:Dk L) {k:Nat} (hk:zB L k) (hkl:k<=9) {Z:Nat} {ls:List Fm} {g:List Ty} {hs:List Fm} {a:Nat} (hS:S19 Z ls g hs) (hZ:Z+cm (k+1)<=281474976710656) (ha:a<=L.length) (hg:g.length<10) (hh:hs.length<10) {b:Nat} (hb:b<=L.length) (gv:O 21 [.loc 0 0,.pv (num 17)] [(0,dk L a)] (.pv (num 6)) [(0,dk L b)]):∃ (p:Pf) (b:Nat),PG (cp (k+1)) (Z+cm (k+1)) ((k+1)+2) p/\b<=L.length/\wD L ls g hs (k+1) a p b:=by
 have hm:=zA;have hbg:=kA;have e20:QA=1048576:=rfl;have eW:=SC;have hz1:=hS.z;have hgl:=hS.gl;have hhl:=hS.hl;have e1:cp (k+1)=2 * cp k+10000:=rfl;have e2:cm (k+1)=2 * cm k+YB+4 * QA:=rfl;have e3:=TC k;have gs:=uB (a:=k+1) (by omega) (by omega);have b1:uA (.ofNat (g.map Ty.c).length) (.ofNat 10)=true:=cA (by simpa using hg);have b2:uA (.ofNat (hs.map Fm.c).length) (.ofNat 10)=true:=cA (by simpa using hh);obtain⟨x,c,qx,hc,gx⟩:=xC hL (t:=.nat) (g:=g) (by decide) hS.gs (by omega) hb;obtain⟨v,d,hv,hd,gw⟩:=nx hL hc (n:=2) (by omega) (by omega);have:=qx.cnt;have:=qx.tsz;have:=qx.mx;have m1:=cE 1 x 0;have e5:(1:Int).toNat=1:=rfl;have gu:=eT x (by omega) (by rw [hm];omega);rcases v with _|_|v
 ·exact⟨.ex false (.q .ex .nat (.eq (x.sh 0 1) (.v 0))) x (.refl x),d,⟨by simp only [Pf.cnt,Fm.cnt,DB,lB,Tm.cnt];omega,by simp only [Pf.tsz,Fm.tsz,MB,LB,Tm.tsz,Ty.size];omega,by simp only [Pf.mx,Fm.mx,Tm.mx];omega,by simp only [Pf.dp,lN];omega⟩,hd,RH 1 [(36,.Y),(43,.G),(49,.G),(52,.D L b (.pv (num 6))),(180,.D L c (.pv x.p)),(182,.D L d (.pv (num 0))),(189,.r (x.sh 0 1).p),(190,.r (Tm.v 0).p),(191,.r (Fm.eq (x.sh 0 1) (.v 0)).p),(192,.r (Fm.q .ex .nat (.eq (x.sh 0 1) (.v 0))).p),(200,.r (Pf.refl x).p),(201,.r (Pf.ex false (.q .ex .nat (.eq (x.sh 0 1) (.v 0))) x (.refl x)).p)] oA b1 b2 gv gx gw gu (tE 0) (PE (x.sh 0 1) (.v 0)) (cD .ex .nat (.eq (x.sh 0 1) (.v 0))) (sB x) (oI false (.q .ex .nat (.eq (x.sh 0 1) (.v 0))) x (.refl x))⟩
 ·exact⟨.ex true (.q .exU .nat (.eq (x.sh 0 1) (.v 0))) x (.refl x),d,⟨by simp only [Pf.cnt,Fm.cnt,DB,lB,Tm.cnt];omega,by simp only [Pf.tsz,Fm.tsz,MB,LB,Tm.tsz,Ty.size];omega,by simp only [Pf.mx,Fm.mx,Tm.mx];omega,by simp only [Pf.dp,lN];omega⟩,hd,RH 1 [(36,.Y),(43,.G),(49,.G),(52,.D L b (.pv (num 6))),(180,.D L c (.pv x.p)),(182,.D L d (.pv (num 1))),(189,.r (x.sh 0 1).p),(190,.r (Tm.v 0).p),(191,.r (Fm.eq (x.sh 0 1) (.v 0)).p),(192,.r (Fm.q .exU .nat (.eq (x.sh 0 1) (.v 0))).p),(200,.r (Pf.refl x).p),(201,.r (Pf.ex true (.q .exU .nat (.eq (x.sh 0 1) (.v 0))) x (.refl x)).p)] oA b1 b2 gv gx gw gu (tE 0) (PE (x.sh 0 1) (.v 0)) (cD .exU .nat (.eq (x.sh 0 1) (.v 0))) (sB x) (oI true (.q .exU .nat (.eq (x.sh 0 1) (.v 0))) x (.refl x))⟩
 ·omega
theorem Mr (H:MF) {L:List Int} (hL:Dk L) {k:Nat} (hk:zB L k) (hkl:k<=9) {Z:Nat} {ls:List Fm} {g:List Ty} {hs:List Fm} {a:Nat} (hS:S19 Z ls g hs) (hZ:Z+cm (k+1)<=281474976710656) (ha:a<=L.length) (hg:g.length<10) (hh:hs.length<10) {b:Nat} (hb:b<=L.length) (gv:O 21 [.loc 0 0,.pv (num 17)] [(0,dk L a)] (.pv (num 7)) [(0,dk L b)]):∃ (p:Pf) (b:Nat),PG (cp (k+1)) (Z+cm (k+1)) ((k+1)+2) p/\b<=L.length/\wD L ls g hs (k+1) a p b:=by
 have hm:=zA;have hbg:=kA;have e20:QA=1048576:=rfl;have eW:=SC;have hz1:=hS.z;have hgl:=hS.gl;have hhl:=hS.hl;have e1:cp (k+1)=2 * cp k+10000:=rfl;have e2:cm (k+1)=2 * cm k+YB+4 * QA:=rfl;have e3:=TC k;have gs:=uB (a:=k+1) (by omega) (by omega);have b1:uA (.ofNat (g.map Ty.c).length) (.ofNat 10)=true:=cA (by simpa using hg);have b2:uA (.ofNat (hs.map Fm.c).length) (.ofNat 10)=true:=cA (by simpa using hh);obtain⟨p,c,q1,hc0,g1⟩:=hk Z ls g hs b hS (by omega) hb;have:=q1.cnt;have:=q1.tsz;have:=q1.mx;have:=q1.dp;obtain⟨r,g2,qr⟩:=FT H hS q1 (by omega) hZ;have e4:=HN k (by omega)
 cases r with
 | er n =>
  obtain⟨w,c1,hw,hc,gw⟩:=nx hL hc0 (n:=4) (by omega) (by omega);obtain⟨x,d,q,hd,gx⟩:=xC hL (t:=.nat) (g:=g) (by decide) hS.gs (by omega) hc;have cx:=q.cnt;have mx:=q.mx;have sx:=q.tsz;rcases w with _|_|w
  ·cases hs with
   | nil=>exact⟨.refl x,d,⟨by simp only [Pf.cnt];omega,by simp only [Pf.tsz];omega,by simp only [Pf.mx];omega,by simp only [Pf.dp,lN];omega⟩,hd,zC 1 [(36,.Y),(43,.G),(49,.G),(52,.D L b (.pv (num 7))),(208,.z k),(209,.D L c (.pv p.p)),(214,.r (PR.er n).p),(388,.D L c1 (.pv (num 0))),(415,.D L d (.pv x.p)),(416,.r (Pf.refl x).p)] oA b1 b2 gv gs g1 g2 gw gx (sB x)⟩
   | cons f r =>
    have hr:=hS.hl;obtain⟨i,e,hi,he,gi⟩:=nx hL hc (n:=((f::r).map Fm.c).length) (by simp) (by simp at hr ⊢;omega);exact⟨.leaf false i,e,⟨by simp only [Pf.cnt];omega,Nat.zero_le _,Nat.zero_le _,Nat.zero_le _⟩,he,zC 1 [(36,.Y),(43,.G),(49,.G),(52,.D L b (.pv (num 7))),(208,.z k),(209,.D L c (.pv p.p)),(214,.r (PR.er n).p),(388,.D L c1 (.pv (num 0))),(399,.D L e (.pv (num i))),(400,.r (Pf.leaf false i).p)] oA b1 b2 gv gs g1 g2 gw gi (CF i)⟩
  ·cases ls with
   | nil=>exact⟨.refl x,d,⟨by simp only [Pf.cnt];omega,by simp only [Pf.tsz];omega,by simp only [Pf.mx];omega,by simp only [Pf.dp,lN];omega⟩,hd,zC 1 [(36,.Y),(43,.G),(49,.G),(52,.D L b (.pv (num 7))),(208,.z k),(209,.D L c (.pv p.p)),(214,.r (PR.er n).p),(388,.D L c1 (.pv (num 1))),(415,.D L d (.pv x.p)),(416,.r (Pf.refl x).p)] oA b1 b2 gv gs g1 g2 gw gx (sB x)⟩
   | cons f r =>
    have hr:=hS.ll;obtain⟨i,e,hi,he,gi⟩:=nx hL hc (n:=((f::r).map Fm.c).length) (by simp) (by simp at hr ⊢;omega);exact⟨.leaf true i,e,⟨by simp only [Pf.cnt];omega,Nat.zero_le _,Nat.zero_le _,Nat.zero_le _⟩,he,o9 1 [(36,.Y),(43,.G),(49,.G),(52,.D L b (.pv (num 7))),(208,.z k),(209,.D L c (.pv p.p)),(214,.r (PR.er n).p),(388,.D L c1 (.pv (num 1))),(409,.D L e (.pv (num i)))] oA b1 b2 gv gs g1 g2 gw gi⟩
  ·exact⟨.refl x,d,⟨by simp only [Pf.cnt];omega,by simp only [Pf.tsz];omega,by simp only [Pf.mx];omega,by simp only [Pf.dp,lN];omega⟩,hd,zC 1 [(36,.Y),(43,.G),(49,.G),(52,.D L b (.pv (num 7))),(208,.z k),(209,.D L c (.pv p.p)),(214,.r (PR.er n).p),(388,.D L c1 (.pv (num (w+2)))),(415,.D L d (.pv x.p)),(416,.r (Pf.refl x).p)] oA b1 b2 gv gs g1 g2 gw gx (sB x)⟩
 | ok f u =>
  have hF:=qr f u rfl;have c1:=hF.1;have c2:=hF.2.1;have c3:=hF.2.2;have c4:=QE 1 f 0;have e5:(1:Int).toNat=1:=rfl;have gu:=gD f 0 1 (by omega) (by omega) (by rw [hm];omega) (by omega);obtain⟨t,d,zt,hd,g3⟩:=zD hL 1 (by omega) hc0;have zt:t.size<=3:=zt;obtain⟨v,e,hv,he,gw⟩:=nx hL hd (n:=2) (by omega) (by omega);obtain⟨x,h,qx,hh',gx⟩:=xC hL (t:=t) (g:=g) zt hS.gs (by omega) he;have:=qx.cnt;have:=qx.tsz;have:=qx.mx;rcases v with _|_|v
  ·exact⟨.ex false (.q .ex t (f.sh 0 1)) x p,h,⟨by simp only [Pf.cnt,Fm.cnt,DB,lB,Tm.cnt];omega,by simp only [Pf.tsz,Fm.tsz,MB,LB,Tm.tsz,Ty.size];omega,by simp only [Pf.mx,Fm.mx,Tm.mx];omega,by simp only [Pf.dp,lN];omega⟩,hh',o13 1 [(36,.Y),(43,.G),(49,.G),(52,.D L b (.pv (num 7))),(208,.z k),(209,.D L c (.pv p.p)),(214,.r (PR.ok f u).p),(220,.D L d (.pv t.p)),(222,.D L e (.pv (num 0))),(230,.r (f.sh 0 1).p),(231,.r (Fm.q .ex t (f.sh 0 1)).p),(241,.D L h (.pv x.p)),(243,.r (Pf.ex false (.q .ex t (f.sh 0 1)) x p).p)] oA b1 b2 gv gs g1 g2 g3 gw gu (cD .ex t (f.sh 0 1)) gx (oI false (.q .ex t (f.sh 0 1)) x p)⟩
  ·exact⟨.ex true (.q .exU t (f.sh 0 1)) x p,h,⟨by simp only [Pf.cnt,Fm.cnt,DB,lB,Tm.cnt];omega,by simp only [Pf.tsz,Fm.tsz,MB,LB,Tm.tsz,Ty.size];omega,by simp only [Pf.mx,Fm.mx,Tm.mx];omega,by simp only [Pf.dp,lN];omega⟩,hh',o13 1 [(36,.Y),(43,.G),(49,.G),(52,.D L b (.pv (num 7))),(208,.z k),(209,.D L c (.pv p.p)),(214,.r (PR.ok f u).p),(220,.D L d (.pv t.p)),(222,.D L e (.pv (num 1))),(230,.r (f.sh 0 1).p),(231,.r (Fm.q .exU t (f.sh 0 1)).p),(241,.D L h (.pv x.p)),(243,.r (Pf.ex true (.q .exU t (f.sh 0 1)) x p).p)] oA b1 b2 gv gs g1 g2 g3 gw gu (cD .exU t (f.sh 0 1)) gx (oI true (.q .exU t (f.sh 0 1)) x p)⟩
  ·omega
theorem Nr {L:List Int} (hL:Dk L) {k:Nat} (hk:zB L k) (Ho:BX L k) (hkl:k<=9) {Z:Nat} {ls:List Fm} {g:List Ty} {hs:List Fm} {a:Nat} (hS:S19 Z ls g hs) (hZ:Z+cm (k+1)<=281474976710656) (ha:a<=L.length) (hg:g.length<10) (hh:hs.length<10) {b:Nat} (hb:b<=L.length) (gv:O 21 [.loc 0 0,.pv (num 17)] [(0,dk L a)] (.pv (num 8)) [(0,dk L b)]):∃ (p:Pf) (b:Nat),PG (cp (k+1)) (Z+cm (k+1)) ((k+1)+2) p/\b<=L.length/\wD L ls g hs (k+1) a p b:=by
 have hm:=zA;have hbg:=kA;have e20:QA=1048576:=rfl;have eW:=SC;have hz1:=hS.z;have hgl:=hS.gl;have hhl:=hS.hl;have e1:cp (k+1)=2 * cp k+10000:=rfl;have e2:cm (k+1)=2 * cm k+YB+4 * QA:=rfl;have e3:=TC k;have gs:=uB (a:=k+1) (by omega) (by omega);have b1:uA (.ofNat (g.map Ty.c).length) (.ofNat 10)=true:=cA (by simpa using hg);have b2:uA (.ofNat (hs.map Fm.c).length) (.ofNat 10)=true:=cA (by simpa using hh);obtain⟨p,c,q1,hc,g1⟩:=Ho Z ls g hs b hS hg hh hZ hb;exact⟨p,c,q1,hc,o5 1 [(36,.Y),(43,.G),(49,.G),(52,.D L b (.pv (num 8))),(250,.D L c (.pv p.p))] oA b1 b2 gv g1⟩
theorem Pr (H:MF) {L:List Int} (hL:Dk L) {k:Nat} (hk:zB L k) (hkl:k<=9) {Z:Nat} {ls:List Fm} {g:List Ty} {hs:List Fm} {a:Nat} (hS:S19 Z ls g hs) (hZ:Z+cm (k+1)<=281474976710656) (ha:a<=L.length) (hg:g.length<10) (hh:hs.length<10) {b:Nat} (hb:b<=L.length) (gv:O 21 [.loc 0 0,.pv (num 17)] [(0,dk L a)] (.pv (num 9)) [(0,dk L b)]):∃ (p:Pf) (b:Nat),PG (cp (k+1)) (Z+cm (k+1)) ((k+1)+2) p/\b<=L.length/\wD L ls g hs (k+1) a p b:=by
 have hm:=zA;have hbg:=kA;have e20:QA=1048576:=rfl;have eW:=SC;have hz1:=hS.z;have hgl:=hS.gl;have hhl:=hS.hl;have e1:cp (k+1)=2 * cp k+10000:=rfl;have e2:cm (k+1)=2 * cm k+YB+4 * QA:=rfl;have e3:=TC k;have gs:=uB (a:=k+1) (by omega) (by omega);have b1:uA (.ofNat (g.map Ty.c).length) (.ofNat 10)=true:=cA (by simpa using hg);have b2:uA (.ofNat (hs.map Fm.c).length) (.ofNat 10)=true:=cA (by simpa using hh);obtain⟨p,c,q1,hc0,g1⟩:=hk Z ls g hs b hS (by omega) hb;have:=q1.cnt;have:=q1.tsz;have:=q1.mx;have:=q1.dp;obtain⟨r,g2,qr⟩:=FT H hS q1 (by omega) hZ;have e4:=HN k (by omega)
 cases r with
 | er n =>
  obtain⟨w,c1,hw,hc,gw⟩:=nx hL hc0 (n:=4) (by omega) (by omega);obtain⟨x,d,q,hd,gx⟩:=xC hL (t:=.nat) (g:=g) (by decide) hS.gs (by omega) hc;have cx:=q.cnt;have mx:=q.mx;have sx:=q.tsz;rcases w with _|_|w
  ·cases hs with
   | nil=>exact⟨.refl x,d,⟨by simp only [Pf.cnt];omega,by simp only [Pf.tsz];omega,by simp only [Pf.mx];omega,by simp only [Pf.dp,lN];omega⟩,hd,zC 1 [(36,.Y),(43,.G),(49,.G),(52,.D L b (.pv (num 9))),(257,.z k),(258,.D L c (.pv p.p)),(263,.r (PR.er n).p),(388,.D L c1 (.pv (num 0))),(415,.D L d (.pv x.p)),(416,.r (Pf.refl x).p)] oA b1 b2 gv gs g1 g2 gw gx (sB x)⟩
   | cons f r =>
    have hr:=hS.hl;obtain⟨i,e,hi,he,gi⟩:=nx hL hc (n:=((f::r).map Fm.c).length) (by simp) (by simp at hr ⊢;omega);exact⟨.leaf false i,e,⟨by simp only [Pf.cnt];omega,Nat.zero_le _,Nat.zero_le _,Nat.zero_le _⟩,he,zC 1 [(36,.Y),(43,.G),(49,.G),(52,.D L b (.pv (num 9))),(257,.z k),(258,.D L c (.pv p.p)),(263,.r (PR.er n).p),(388,.D L c1 (.pv (num 0))),(399,.D L e (.pv (num i))),(400,.r (Pf.leaf false i).p)] oA b1 b2 gv gs g1 g2 gw gi (CF i)⟩
  ·cases ls with
   | nil=>exact⟨.refl x,d,⟨by simp only [Pf.cnt];omega,by simp only [Pf.tsz];omega,by simp only [Pf.mx];omega,by simp only [Pf.dp,lN];omega⟩,hd,zC 1 [(36,.Y),(43,.G),(49,.G),(52,.D L b (.pv (num 9))),(257,.z k),(258,.D L c (.pv p.p)),(263,.r (PR.er n).p),(388,.D L c1 (.pv (num 1))),(415,.D L d (.pv x.p)),(416,.r (Pf.refl x).p)] oA b1 b2 gv gs g1 g2 gw gx (sB x)⟩
   | cons f r =>
    have hr:=hS.ll;obtain⟨i,e,hi,he,gi⟩:=nx hL hc (n:=((f::r).map Fm.c).length) (by simp) (by simp at hr ⊢;omega);exact⟨.leaf true i,e,⟨by simp only [Pf.cnt];omega,Nat.zero_le _,Nat.zero_le _,Nat.zero_le _⟩,he,o9 1 [(36,.Y),(43,.G),(49,.G),(52,.D L b (.pv (num 9))),(257,.z k),(258,.D L c (.pv p.p)),(263,.r (PR.er n).p),(388,.D L c1 (.pv (num 1))),(409,.D L e (.pv (num i)))] oA b1 b2 gv gs g1 g2 gw gi⟩
  ·exact⟨.refl x,d,⟨by simp only [Pf.cnt];omega,by simp only [Pf.tsz];omega,by simp only [Pf.mx];omega,by simp only [Pf.dp,lN];omega⟩,hd,zC 1 [(36,.Y),(43,.G),(49,.G),(52,.D L b (.pv (num 9))),(257,.z k),(258,.D L c (.pv p.p)),(263,.r (PR.er n).p),(388,.D L c1 (.pv (num (w+2)))),(415,.D L d (.pv x.p)),(416,.r (Pf.refl x).p)] oA b1 b2 gv gs g1 g2 gw gx (sB x)⟩
 | ok f u =>
  have hF:=qr f u rfl;have c1:=hF.1;have c2:=hF.2.1;have c3:=hF.2.2;have c4:=QE 1 f 0;have e5:(1:Int).toNat=1:=rfl;have gu:=gD f 0 1 (by omega) (by omega) (by rw [hm];omega) (by omega);obtain⟨x,d,qx,hd,gx⟩:=xC hL (t:=.nat) (g:=g) (by decide) hS.gs (by omega) hc0;have:=qx.cnt;have:=qx.tsz;have:=qx.mx;exact⟨.ind false (f.sh 0 1) x p (.leaf false 0),d,⟨by simp only [Pf.cnt,Fm.cnt,DB,lB,Tm.cnt];omega,by simp only [Pf.tsz,Fm.tsz,MB,LB,Tm.tsz,Ty.size];omega,by simp only [Pf.mx,Fm.mx,Tm.mx];omega,by simp only [Pf.dp,lN];omega⟩,hd,bH 1 [(36,.Y),(43,.G),(49,.G),(52,.D L b (.pv (num 9))),(257,.z k),(258,.D L c (.pv p.p)),(263,.r (PR.ok f u).p),(270,.r (f.sh 0 1).p),(275,.D L d (.pv x.p)),(277,.r (Pf.leaf false 0).p),(278,.r (Pf.ind false (f.sh 0 1) x p (.leaf false 0)).p)] oA b1 b2 gv gs g1 g2 gu gx (CF 0) (lW false (f.sh 0 1) x p (.leaf false 0))⟩
theorem Qr (H:MF) {L:List Int} (hL:Dk L) {k:Nat} (hk:zB L k) (hkl:k<=9) {Z:Nat} {ls:List Fm} {g:List Ty} {hs:List Fm} {a:Nat} (hS:S19 Z ls g hs) (hZ:Z+cm (k+1)<=281474976710656) (ha:a<=L.length) (hg:g.length<10) (hh:hs.length<10) {b:Nat} (hb:b<=L.length) (gv:O 21 [.loc 0 0,.pv (num 17)] [(0,dk L a)] (.pv (num 10)) [(0,dk L b)]):∃ (p:Pf) (b:Nat),PG (cp (k+1)) (Z+cm (k+1)) ((k+1)+2) p/\b<=L.length/\wD L ls g hs (k+1) a p b:=by
 have hm:=zA;have hbg:=kA;have e20:QA=1048576:=rfl;have eW:=SC;have hz1:=hS.z;have hgl:=hS.gl;have hhl:=hS.hl;have e1:cp (k+1)=2 * cp k+10000:=rfl;have e2:cm (k+1)=2 * cm k+YB+4 * QA:=rfl;have e3:=TC k;have gs:=uB (a:=k+1) (by omega) (by omega);have b1:uA (.ofNat (g.map Ty.c).length) (.ofNat 10)=true:=cA (by simpa using hg);have b2:uA (.ofNat (hs.map Fm.c).length) (.ofNat 10)=true:=cA (by simpa using hh);obtain⟨p,c,q1,hc0,g1⟩:=hk Z ls g hs b hS (by omega) hb;have:=q1.cnt;have:=q1.tsz;have:=q1.mx;have:=q1.dp;obtain⟨r,g2,qr⟩:=FT H hS q1 (by omega) hZ;have e4:=HN k (by omega)
 cases r with
 | er n =>
  obtain⟨w,c1,hw,hc,gw⟩:=nx hL hc0 (n:=4) (by omega) (by omega);obtain⟨x,d,q,hd,gx⟩:=xC hL (t:=.nat) (g:=g) (by decide) hS.gs (by omega) hc;have cx:=q.cnt;have mx:=q.mx;have sx:=q.tsz;rcases w with _|_|w
  ·cases hs with
   | nil=>exact⟨.refl x,d,⟨by simp only [Pf.cnt];omega,by simp only [Pf.tsz];omega,by simp only [Pf.mx];omega,by simp only [Pf.dp,lN];omega⟩,hd,zC 1 [(36,.Y),(43,.G),(49,.G),(52,.D L b (.pv (num 10))),(285,.z k),(286,.D L c (.pv p.p)),(291,.r (PR.er n).p),(388,.D L c1 (.pv (num 0))),(415,.D L d (.pv x.p)),(416,.r (Pf.refl x).p)] oA b1 b2 gv gs g1 g2 gw gx (sB x)⟩
   | cons f r =>
    have hr:=hS.hl;obtain⟨i,e,hi,he,gi⟩:=nx hL hc (n:=((f::r).map Fm.c).length) (by simp) (by simp at hr ⊢;omega);exact⟨.leaf false i,e,⟨by simp only [Pf.cnt];omega,Nat.zero_le _,Nat.zero_le _,Nat.zero_le _⟩,he,zC 1 [(36,.Y),(43,.G),(49,.G),(52,.D L b (.pv (num 10))),(285,.z k),(286,.D L c (.pv p.p)),(291,.r (PR.er n).p),(388,.D L c1 (.pv (num 0))),(399,.D L e (.pv (num i))),(400,.r (Pf.leaf false i).p)] oA b1 b2 gv gs g1 g2 gw gi (CF i)⟩
  ·cases ls with
   | nil=>exact⟨.refl x,d,⟨by simp only [Pf.cnt];omega,by simp only [Pf.tsz];omega,by simp only [Pf.mx];omega,by simp only [Pf.dp,lN];omega⟩,hd,zC 1 [(36,.Y),(43,.G),(49,.G),(52,.D L b (.pv (num 10))),(285,.z k),(286,.D L c (.pv p.p)),(291,.r (PR.er n).p),(388,.D L c1 (.pv (num 1))),(415,.D L d (.pv x.p)),(416,.r (Pf.refl x).p)] oA b1 b2 gv gs g1 g2 gw gx (sB x)⟩
   | cons f r =>
    have hr:=hS.ll;obtain⟨i,e,hi,he,gi⟩:=nx hL hc (n:=((f::r).map Fm.c).length) (by simp) (by simp at hr ⊢;omega);exact⟨.leaf true i,e,⟨by simp only [Pf.cnt];omega,Nat.zero_le _,Nat.zero_le _,Nat.zero_le _⟩,he,o9 1 [(36,.Y),(43,.G),(49,.G),(52,.D L b (.pv (num 10))),(285,.z k),(286,.D L c (.pv p.p)),(291,.r (PR.er n).p),(388,.D L c1 (.pv (num 1))),(409,.D L e (.pv (num i)))] oA b1 b2 gv gs g1 g2 gw gi⟩
  ·exact⟨.refl x,d,⟨by simp only [Pf.cnt];omega,by simp only [Pf.tsz];omega,by simp only [Pf.mx];omega,by simp only [Pf.dp,lN];omega⟩,hd,zC 1 [(36,.Y),(43,.G),(49,.G),(52,.D L b (.pv (num 10))),(285,.z k),(286,.D L c (.pv p.p)),(291,.r (PR.er n).p),(388,.D L c1 (.pv (num (w+2)))),(415,.D L d (.pv x.p)),(416,.r (Pf.refl x).p)] oA b1 b2 gv gs g1 g2 gw gx (sB x)⟩
 | ok f u =>
  have hF:=qr f u rfl;have c1:=hF.1;have c2:=hF.2.1;have c3:=hF.2.2;have c4:=QE 1 f 0;have e5:(1:Int).toNat=1:=rfl;have gu:=gD f 0 1 (by omega) (by omega) (by rw [hm];omega) (by omega);obtain⟨x,d,qx,hd,gx⟩:=xC hL (t:=.list) (g:=g) (by decide) hS.gs (by omega) hc0;have:=qx.cnt;have:=qx.tsz;have:=qx.mx;exact⟨.ind true (f.sh 0 1) x p (.leaf false 0),d,⟨by simp only [Pf.cnt,Fm.cnt,DB,lB,Tm.cnt];omega,by simp only [Pf.tsz,Fm.tsz,MB,LB,Tm.tsz,Ty.size];omega,by simp only [Pf.mx,Fm.mx,Tm.mx];omega,by simp only [Pf.dp,lN];omega⟩,hd,RH 1 [(36,.Y),(43,.G),(49,.G),(52,.D L b (.pv (num 10))),(285,.z k),(286,.D L c (.pv p.p)),(291,.r (PR.ok f u).p),(298,.r (f.sh 0 1).p),(302,.r Ty.list.p),(303,.D L d (.pv x.p)),(305,.r (Pf.leaf false 0).p),(306,.r (Pf.ind true (f.sh 0 1) x p (.leaf false 0)).p)] oA b1 b2 gv gs g1 g2 gu DK gx (CF 0) (lW true (f.sh 0 1) x p (.leaf false 0))⟩
theorem Rr {L:List Int} (hL:Dk L) {k:Nat} (hk:zB L k) (hkl:k<=9) {Z:Nat} {ls:List Fm} {g:List Ty} {hs:List Fm} {a:Nat} (hS:S19 Z ls g hs) (hZ:Z+cm (k+1)<=281474976710656) (ha:a<=L.length) (hg:g.length<10) (hh:hs.length<10) {b:Nat} (hb:b<=L.length) (gv:O 21 [.loc 0 0,.pv (num 17)] [(0,dk L a)] (.pv (num 11)) [(0,dk L b)]):∃ (p:Pf) (b:Nat),PG (cp (k+1)) (Z+cm (k+1)) ((k+1)+2) p/\b<=L.length/\wD L ls g hs (k+1) a p b:=by
 have hm:=zA;have hbg:=kA;have e20:QA=1048576:=rfl;have eW:=SC;have hz1:=hS.z;have hgl:=hS.gl;have hhl:=hS.hl;have e1:cp (k+1)=2 * cp k+10000:=rfl;have e2:cm (k+1)=2 * cm k+YB+4 * QA:=rfl;have e3:=TC k;have gs:=uB (a:=k+1) (by omega) (by omega);have b1:uA (.ofNat (g.map Ty.c).length) (.ofNat 10)=true:=cA (by simpa using hg);have b2:uA (.ofNat (hs.map Fm.c).length) (.ofNat 10)=true:=cA (by simpa using hh);obtain⟨x,c,qx,hc,gx⟩:=xC hL (t:=.nat) (g:=g) (by decide) hS.gs (by omega) hb;have:=qx.cnt;have:=qx.tsz;have:=qx.mx;have z1:(gH x).cnt<=x.cnt+1000:=by
  simp only [gH,Pf.cnt];have:stepP.cnt<=900:=by decide
  have:(Fm.eq pl0 (.v 0)).cnt<=50:=by decide
  have:(UA 0).cnt<=10:=by decide
  omega
 have z2:(gH x).tsz<=x.tsz+10:=by
  simp only [gH,Pf.tsz];have:stepP.tsz<=10:=by decide
  have:(Fm.eq pl0 (.v 0)).tsz<=10:=by decide
  have:(UA 0).tsz<=10:=by decide
  omega
 have z3:(gH x).mx<=x.mx+10:=by
  simp only [gH,Pf.mx];have:stepP.mx<=10:=by decide
  have:(Fm.eq pl0 (.v 0)).mx<=10:=by decide
  have:(UA 0).mx<=10:=by decide
  omega
 exact⟨gH x,c,⟨by omega,by omega,by omega,by have h:stepP.dp<=1:=(by decide);simp only [gH,Pf.dp,lN];omega⟩,hc,o6 1 [(36,.Y),(43,.G),(49,.G),(52,.D L b (.pv (num 11))),(313,.D L c (.pv x.p)),(314,.r (gH x).p)] oA b1 b2 gv gx (Ar x)⟩
theorem Sr {L:List Int} (hL:Dk L) {k:Nat} (hk:zB L k) (hkl:k<=9) {Z:Nat} {ls:List Fm} {g:List Ty} {hs:List Fm} {a:Nat} (hS:S19 Z ls g hs) (hZ:Z+cm (k+1)<=281474976710656) (ha:a<=L.length) (hg:g.length<10) (hh:hs.length<10) {b:Nat} (hb:b<=L.length) (gv:O 21 [.loc 0 0,.pv (num 17)] [(0,dk L a)] (.pv (num 12)) [(0,dk L b)]):∃ (p:Pf) (b:Nat),PG (cp (k+1)) (Z+cm (k+1)) ((k+1)+2) p/\b<=L.length/\wD L ls g hs (k+1) a p b:=by
 have hm:=zA;have hbg:=kA;have e20:QA=1048576:=rfl;have eW:=SC;have hz1:=hS.z;have hgl:=hS.gl;have hhl:=hS.hl;have e1:cp (k+1)=2 * cp k+10000:=rfl;have e2:cm (k+1)=2 * cm k+YB+4 * QA:=rfl;have e3:=TC k;have gs:=uB (a:=k+1) (by omega) (by omega);have b1:uA (.ofNat (g.map Ty.c).length) (.ofNat 10)=true:=cA (by simpa using hg);have b2:uA (.ofNat (hs.map Fm.c).length) (.ofNat 10)=true:=cA (by simpa using hh);obtain⟨x,c,qx,hc,gx⟩:=xC hL (t:=.nat) (g:=g) (by decide) hS.gs (by omega) hb;obtain⟨y,d,qy,hd,gy⟩:=xC hL (t:=.nat) (g:=g) (by decide) hS.gs (by omega) hc;have:=qx.cnt;have:=qx.tsz;have:=qx.mx;have:=qy.cnt;have:=qy.tsz;have:=qy.mx;have m1:=cE 1 y 0;have e5:(1:Int).toNat=1:=rfl;have gu:=eT y (by omega) (by rw [hm];omega);exact⟨.subst (.eq (y.sh 0 1) (y.sh 0 1)) (.refl x) (.refl y),d,⟨by simp only [Pf.cnt,Fm.cnt,DB,lB,Tm.cnt];omega,by simp only [Pf.tsz,Fm.tsz,MB,LB,Tm.tsz,Ty.size];omega,by simp only [Pf.mx,Fm.mx,Tm.mx];omega,by simp only [Pf.dp,lN];omega⟩,hd,RH 1 [(36,.Y),(43,.G),(49,.G),(52,.D L b (.pv (num 12))),(321,.D L c (.pv x.p)),(326,.D L d (.pv y.p)),(328,.r (y.sh 0 1).p),(330,.r (y.sh 0 1).p),(331,.r (Fm.eq (y.sh 0 1) (y.sh 0 1)).p),(333,.r (Pf.refl x).p),(335,.r (Pf.refl y).p),(336,.r (Pf.subst (.eq (y.sh 0 1) (y.sh 0 1)) (.refl x) (.refl y)).p)] oA b1 b2 gv gx gy gu gu (PE (y.sh 0 1) (y.sh 0 1)) (sB x) (sB y) (dc (.eq (y.sh 0 1) (y.sh 0 1)) (.refl x) (.refl y))⟩
theorem Ur {L:List Int} (hL:Dk L) {k:Nat} (hk:zB L k) (hkl:k<=9) {Z:Nat} {ls:List Fm} {g:List Ty} {hs:List Fm} {a:Nat} (hS:S19 Z ls g hs) (hZ:Z+cm (k+1)<=281474976710656) (ha:a<=L.length) (hg:g.length<10) (hh:hs.length<10) {b:Nat} (hb:b<=L.length) (gv:O 21 [.loc 0 0,.pv (num 17)] [(0,dk L a)] (.pv (num 13)) [(0,dk L b)]):∃ (p:Pf) (b:Nat),PG (cp (k+1)) (Z+cm (k+1)) ((k+1)+2) p/\b<=L.length/\wD L ls g hs (k+1) a p b:=by
 have hm:=zA;have hbg:=kA;have e20:QA=1048576:=rfl;have eW:=SC;have hz1:=hS.z;have hgl:=hS.gl;have hhl:=hS.hl;have e1:cp (k+1)=2 * cp k+10000:=rfl;have e2:cm (k+1)=2 * cm k+YB+4 * QA:=rfl;have e3:=TC k;have gs:=uB (a:=k+1) (by omega) (by omega);have b1:uA (.ofNat (g.map Ty.c).length) (.ofNat 10)=true:=cA (by simpa using hg);have b2:uA (.ofNat (hs.map Fm.c).length) (.ofNat 10)=true:=cA (by simpa using hh);obtain⟨t,c,zt,hc,g1⟩:=zD hL 0 (by omega) hb;have zt:t.size<=3:=Nat.le_trans zt (by decide);obtain⟨x,d,qx,hd,g2⟩:=Br hL (g:=g++[t]) (hs:=XB hs) (ND hS.gs (by simpa using zt)) (by simp;omega) hc;have:=qx.cnt;have:=qx.tsz;have:=qx.mx;have:(g++[t]).length=g.length+1:=by simp
 have m1:=cE 1 x 0;have e5:(1:Int).toNat=1:=rfl;exact⟨.p1 .choice (.all false t (AD x)),d,⟨by simp only [Pf.cnt,Fm.cnt,DB,lB,Tm.cnt];omega,by simp only [Pf.tsz,Fm.tsz,MB,LB,Tm.tsz,Ty.size];omega,by simp only [Pf.mx,Fm.mx,Tm.mx];omega,by simp only [Pf.dp,lN];omega⟩,hd,o9 1 [(36,.Y),(43,.G),(49,.G),(52,.D L b (.pv (num 13))),(340,.D L c (.pv t.p)),(346,.r (ZA (g++[t]) (XB hs))),(347,.D L d (.pv (AD x).p)),(348,.r (Pf.all false t (AD x)).p),(350,.r (Pf.p1 .choice (.all false t (AD x))).p)] oA b1 b2 gv g1 (GN g hs t (by omega) (by omega) (λ f hf=>by have:=hS.hb f hf;rw [hm];omega)) g2 (uP false t (AD x)) (VM 20 (.all false t (AD x)))⟩
theorem Vr {L:List Int} (hL:Dk L) {k:Nat} (hk:zB L k) (hkl:k<=9) {Z:Nat} {ls:List Fm} {g:List Ty} {hs:List Fm} {a:Nat} (hS:S19 Z ls g hs) (hZ:Z+cm (k+1)<=281474976710656) (ha:a<=L.length) (hg:g.length<10) (hh:hs.length<10) {b:Nat} (hb:b<=L.length) (gv:O 21 [.loc 0 0,.pv (num 17)] [(0,dk L a)] (.pv (num 14)) [(0,dk L b)]):∃ (p:Pf) (b:Nat),PG (cp (k+1)) (Z+cm (k+1)) ((k+1)+2) p/\b<=L.length/\wD L ls g hs (k+1) a p b:=by
 have hm:=zA;have hbg:=kA;have e20:QA=1048576:=rfl;have eW:=SC;have hz1:=hS.z;have hgl:=hS.gl;have hhl:=hS.hl;have e1:cp (k+1)=2 * cp k+10000:=rfl;have e2:cm (k+1)=2 * cm k+YB+4 * QA:=rfl;have e3:=TC k;have gs:=uB (a:=k+1) (by omega) (by omega);have b1:uA (.ofNat (g.map Ty.c).length) (.ofNat 10)=true:=cA (by simpa using hg);have b2:uA (.ofNat (hs.map Fm.c).length) (.ofNat 10)=true:=cA (by simpa using hh);obtain⟨t,c,zt,hc,g1⟩:=zD hL 1 (by omega) hb;have zt:t.size<=3:=zt;obtain⟨p,d,q1,hd,g2⟩:=hk (Z+1) ls (g++[t]) (XB hs) c (hS.below zt hg) (by omega) hc;have:=q1.cnt;have:=q1.tsz;have:=q1.mx;have:=q1.dp;exact⟨.all true t p,d,⟨by simp only [Pf.cnt,Fm.cnt,DB,lB,Tm.cnt];omega,by simp only [Pf.tsz,Fm.tsz,MB,LB,Tm.tsz,Ty.size];omega,by simp only [Pf.mx,Fm.mx,Tm.mx];omega,by simp only [Pf.dp,lN];omega⟩,hd,o9 1 [(36,.Y),(43,.G),(49,.G),(52,.D L b (.pv (num 14))),(354,.D L c (.pv t.p)),(361,.r (ZA (g++[t]) (XB hs))),(363,.z k),(364,.D L d (.pv p.p)),(365,.r (Pf.all true t p).p)] oA b1 b2 gv g1 (GN g hs t (by omega) (by omega) (λ f hf=>by have:=hS.hb f hf;rw [hm];omega)) gs g2 (uP true t p)⟩
theorem Wr {L:List Int} (hL:Dk L) {k:Nat} (hk:zB L k) (hkl:k<=9) {Z:Nat} {ls:List Fm} {g:List Ty} {hs:List Fm} {a:Nat} (hS:S19 Z ls g hs) (hZ:Z+cm (k+1)<=281474976710656) (ha:a<=L.length) (hg:g.length<10) (hh:hs.length<10) {b:Nat} (hb:b<=L.length) (gv:O 21 [.loc 0 0,.pv (num 17)] [(0,dk L a)] (.pv (num 15)) [(0,dk L b)]):∃ (p:Pf) (b:Nat),PG (cp (k+1)) (Z+cm (k+1)) ((k+1)+2) p/\b<=L.length/\wD L ls g hs (k+1) a p b:=by
 have hm:=zA;have hbg:=kA;have e20:QA=1048576:=rfl;have eW:=SC;have hz1:=hS.z;have hgl:=hS.gl;have hhl:=hS.hl;have e1:cp (k+1)=2 * cp k+10000:=rfl;have e2:cm (k+1)=2 * cm k+YB+4 * QA:=rfl;have e3:=TC k;have gs:=uB (a:=k+1) (by omega) (by omega);have b1:uA (.ofNat (g.map Ty.c).length) (.ofNat 10)=true:=cA (by simpa using hg);have b2:uA (.ofNat (hs.map Fm.c).length) (.ofNat 10)=true:=cA (by simpa using hh);obtain⟨t,c,zt,hc,g1⟩:=zD hL 1 (by omega) hb;have zt:t.size<=3:=zt;obtain⟨x,c0,qx,hc0,gx⟩:=xC hL (t:=t) (g:=g) zt hS.gs (by omega) hc;obtain⟨p,d,q1,hd,g2⟩:=hk (Z+1) ls (g++[t]) (XB hs) c0 (hS.below zt hg) (by omega) hc0;have:=q1.cnt;have:=q1.tsz;have:=q1.mx;have:=q1.dp;have:=qx.cnt;have:=qx.tsz;have:=qx.mx;exact⟨.ins true x (.all true t p),d,⟨by simp only [Pf.cnt,Fm.cnt,DB,lB,Tm.cnt];omega,by simp only [Pf.tsz,Fm.tsz,MB,LB,Tm.tsz,Ty.size];omega,by simp only [Pf.mx,Fm.mx,Tm.mx];omega,by simp only [Pf.dp,lN];omega⟩,hd,bH 1 [(36,.Y),(43,.G),(49,.G),(52,.D L b (.pv (num 15))),(369,.D L c (.pv t.p)),(374,.D L c0 (.pv x.p)),(381,.r (ZA (g++[t]) (XB hs))),(383,.z k),(384,.D L d (.pv p.p)),(385,.r (Pf.all true t p).p),(386,.r (Pf.ins true x (.all true t p)).p)] oA b1 b2 gv g1 gx (GN g hs t (by omega) (by omega) (λ f hf=>by have:=hS.hb f hf;rw [hm];omega)) gs g2 (uP true t p) (bc true x (.all true t p))⟩
theorem Xr {L:List Int} (hL:Dk L) {k:Nat} (hk:zB L k) (hkl:k<=9) {Z:Nat} {ls:List Fm} {g:List Ty} {hs:List Fm} {a:Nat} (hS:S19 Z ls g hs) (hZ:Z+cm (k+1)<=281474976710656) (ha:a<=L.length) (hg:g.length<10) (hh:hs.length<10) {b:Nat} (hb:b<=L.length) (gv:O 21 [.loc 0 0,.pv (num 17)] [(0,dk L a)] (.pv (num 16)) [(0,dk L b)]):∃ (p:Pf) (b:Nat),PG (cp (k+1)) (Z+cm (k+1)) ((k+1)+2) p/\b<=L.length/\wD L ls g hs (k+1) a p b:=by
 have hm:=zA;have hbg:=kA;have e20:QA=1048576:=rfl;have eW:=SC;have hz1:=hS.z;have hgl:=hS.gl;have hhl:=hS.hl;have e1:cp (k+1)=2 * cp k+10000:=rfl;have e2:cm (k+1)=2 * cm k+YB+4 * QA:=rfl;have e3:=TC k;have gs:=uB (a:=k+1) (by omega) (by omega);have b1:uA (.ofNat (g.map Ty.c).length) (.ofNat 10)=true:=cA (by simpa using hg);have b2:uA (.ofNat (hs.map Fm.c).length) (.ofNat 10)=true:=cA (by simpa using hh);obtain⟨w,c,hw,hc,gw⟩:=nx hL hb (n:=4) (by omega) (by omega);obtain⟨x,d,q,hd,gx⟩:=xC hL (t:=.nat) (g:=g) (by decide) hS.gs (by omega) hc;have cx:=q.cnt;have mx:=q.mx;have sx:=q.tsz;rcases w with _|_|w
 ·cases hs with
  | nil=>exact⟨.refl x,d,⟨by simp only [Pf.cnt];omega,by simp only [Pf.tsz];omega,by simp only [Pf.mx];omega,by simp only [Pf.dp,lN];omega⟩,hd,o7 1 [(36,.Y),(43,.G),(49,.G),(52,.D L b (.pv (num 16))),(388,.D L c (.pv (num 0))),(415,.D L d (.pv x.p)),(416,.r (Pf.refl x).p)] oA b1 b2 gv gw gx (sB x)⟩
  | cons f r =>
   have hr:=hS.hl;obtain⟨i,e,hi,he,gi⟩:=nx hL hc (n:=((f::r).map Fm.c).length) (by simp) (by simp at hr ⊢;omega);exact⟨.leaf false i,e,⟨by simp only [Pf.cnt];omega,Nat.zero_le _,Nat.zero_le _,Nat.zero_le _⟩,he,o7 1 [(36,.Y),(43,.G),(49,.G),(52,.D L b (.pv (num 16))),(388,.D L c (.pv (num 0))),(399,.D L e (.pv (num i))),(400,.r (Pf.leaf false i).p)] oA b1 b2 gv gw gi (CF i)⟩
 ·cases ls with
  | nil=>exact⟨.refl x,d,⟨by simp only [Pf.cnt];omega,by simp only [Pf.tsz];omega,by simp only [Pf.mx];omega,by simp only [Pf.dp,lN];omega⟩,hd,o7 1 [(36,.Y),(43,.G),(49,.G),(52,.D L b (.pv (num 16))),(388,.D L c (.pv (num 1))),(415,.D L d (.pv x.p)),(416,.r (Pf.refl x).p)] oA b1 b2 gv gw gx (sB x)⟩
  | cons f r =>
   have hr:=hS.ll;obtain⟨i,e,hi,he,gi⟩:=nx hL hc (n:=((f::r).map Fm.c).length) (by simp) (by simp at hr ⊢;omega);exact⟨.leaf true i,e,⟨by simp only [Pf.cnt];omega,Nat.zero_le _,Nat.zero_le _,Nat.zero_le _⟩,he,o6 1 [(36,.Y),(43,.G),(49,.G),(52,.D L b (.pv (num 16))),(388,.D L c (.pv (num 1))),(409,.D L e (.pv (num i)))] oA b1 b2 gv gw gi⟩
 ·exact⟨.refl x,d,⟨by simp only [Pf.cnt];omega,by simp only [Pf.tsz];omega,by simp only [Pf.mx];omega,by simp only [Pf.dp,lN];omega⟩,hd,o7 1 [(36,.Y),(43,.G),(49,.G),(52,.D L b (.pv (num 16))),(388,.D L c (.pv (num (w+2)))),(415,.D L d (.pv x.p)),(416,.r (Pf.refl x).p)] oA b1 b2 gv gw gx (sB x)⟩
theorem Yr (H:MF) {L:List Int} (hL:Dk L) {k:Nat} (hk:zB L k) (Ho:BX L k) (hkl:k<=9):zB L (k+1):=by
 intro Z ls g hs a hS hZ ha;have hm:=zA;by_cases hg:g.length<10
 ·by_cases hh:hs.length<10
  ·obtain⟨w,b,hw,hb,gv⟩:=nx hL ha (n:=17) (by omega) (by omega);rcases w with _|_|_|_|_|_|_|_|_|_|_|_|_|_|_|_|_|w
   ·exact Fr hL hk hkl hS hZ ha hg hh hb gv
   ·exact Gr hL hk hkl hS hZ ha hg hh hb gv
   ·exact Hr hL hk hkl hS hZ ha hg hh hb gv
   ·exact Ir H hL hk hkl hS hZ ha hg hh hb gv
   ·exact Jr hL hk hkl hS hZ ha hg hh hb gv
   ·exact Kr hL hk hkl hS hZ ha hg hh hb gv
   ·exact Lr hL hk hkl hS hZ ha hg hh hb gv
   ·exact Mr H hL hk hkl hS hZ ha hg hh hb gv
   ·exact Nr hL hk Ho hkl hS hZ ha hg hh hb gv
   ·exact Pr H hL hk hkl hS hZ ha hg hh hb gv
   ·exact Qr H hL hk hkl hS hZ ha hg hh hb gv
   ·exact Rr hL hk hkl hS hZ ha hg hh hb gv
   ·exact Sr hL hk hkl hS hZ ha hg hh hb gv
   ·exact Ur hL hk hkl hS hZ ha hg hh hb gv
   ·exact Vr hL hk hkl hS hZ ha hg hh hb gv
   ·exact Wr hL hk hkl hS hZ ha hg hh hb gv
   ·exact Xr hL hk hkl hS hZ ha hg hh hb gv
   ·omega
  ·exact Er hL hk hkl hS hZ ha hg hh
 ·exact Dr hL hk hkl hS hZ ha hg
section
variable {f:Nat} {args:List V} {objs:List (Nat × Ob)} {x:V} {objs':List (Nat × Ob)}
theorem Zr (m:Nat) (tp:Di) {H1 H2 H3 H4 H5 H6 H7 H8 H9 H10 H11 H12 H13 H14 H15 H16 H17 BB zB H20 H21 H22:Prop} (h1:H1) (h2:H2) (h3:H3) (h4:H4) (h5:H5) (h6:H6) (h7:H7) (h8:H8) (h9:H9) (h10:H10) (h11:H11) (h12:H12) (h13:H13) (h14:H14) (h15:H15) (h16:H16) (h17:H17) (vD:BB) (OD:zB) (h20:H20) (h21:H21) (h22:H22) (e:(H1/\H2/\H3/\H4/\H5/\H6/\H7/\H8/\H9/\H10/\H11/\H12/\H13/\H14/\H15/\H16/\H17/\BB/\zB/\H20/\H21/\H22/\(x,objs')=(x,objs'))=UO f args objs m tp x objs':=by kernel_rfl):O f args objs x objs':=ok m tp ⟨h1,h2,h3,h4,h5,h6,h7,h8,h9,h10,h11,h12,h13,h14,h15,h16,h17,vD,OD,h20,h21,h22,rfl⟩ e
end
theorem js (f:Fm):O 74 [.pv f.p] [] (.agg [.undef,.pv (num f.tk),.pv (.slice f.te),.pv (.slice f.ts),.pv (.slice f.es)]) []:=by
 have h:A 74 [f.p] f.p:=aD f;refine⟨h.direct,λ n hn=>by simp [Out.names,V.names,EA] at hn,h.namesO,λ E w vs hB hv hR=>(h.calls E w vs hB hv hR).mono ?_⟩
 rintro e w' ⟨E',hd,v,he,hr⟩
 refine⟨E',hd,v,he,?_⟩;have hr:RepP E'.H (.agg f.c) v:=hr;simp only [RepP] at hr;obtain⟨us,e1,e2,e3⟩:=hr;refine⟨us,e1,e2,?_⟩
 match us,e3 with
 | [],e3=>exact e3.elim
 | u::us,e3 =>
  refine⟨trivial,?_⟩;have e4:=e3.2
  match us,e4 with
  | [],e4=>exact e4.elim
  | u2::us,e4 =>
   refine⟨e4.1,?_⟩;have e5:=e4.2
   match us,e5 with
   | [],e5=>exact e5.elim
   | u3::us,e5 =>
    refine⟨e5.1,?_⟩;have e6:=e5.2
    match us,e6 with
    | [],e6=>exact e6.elim
    | u4::us,e6 =>
     refine⟨e6.1,?_⟩;have e7:=e6.2
     match us,e7 with
     | [],e7=>exact e7.elim
     | u5::us,e7=>exact⟨e7.1,trivial⟩
abbrev qE (x:Tm):Fm:=.eq (x.sh 0 1) (.v 0)
abbrev GK (x:Tm):Pf:=.ex true (.q .exU .nat (qE x)) x (.refl x)
theorem ws {L:List Int} (hL:Dk L) {k:Nat} (hk:zB L k) (hkl:k<=9):BX L k:=by
 intro Z ls g hs a hS hg hh hZ ha;have hm:=zA;have hbg:=kA;have e20:QA=1048576:=rfl;have eW:=SC;have hz1:=hS.z;have hgl:=hS.gl;have hhl:=hS.hl;have e1:cp (k+1)=2 * cp k+10000:=rfl;have e2:cm (k+1)=2 * cm k+YB+4 * QA:=rfl;have e3:=TC k;have gs:=uB (a:=k+1) (by omega) (by omega);obtain⟨x,b,qx,hb,g1⟩:=xC hL (t:=.nat) (g:=g) (by decide) hS.gs (by omega) ha;have c1:=qx.cnt;have c2:=qx.tsz;have c3:=qx.mx;have m1:=cE 1 x 0;have e5:(1:Int).toNat=1:=rfl;have gu:=eT x (by omega) (by rw [hm];omega);have hE:FBd (Z+1) (qE x):=⟨by simp only [Fm.cnt,lB,Tm.cnt];omega,by simp only [Fm.tsz,LB,Tm.tsz];omega,by simp only [Fm.mx,Tm.mx];omega⟩;obtain⟨w,c,hw,hc,gw⟩:=nx hL hb (n:=3) (by omega) (by omega);have gB:=GN g hs .nat (by omega) (by omega) (λ f hf=>by have:=hS.hb f hf;rw [hm];omega);have gW:=aX (g++[.nat]) (XB hs) (qE x) (by simp;omega);have S1:S19 (Z+1) ls (g++[.nat]) (XB hs++[qE x]):=(hS.below (t:=.nat) (by decide) hg).with hE (Nat.le_refl _) (by simpa using hh);obtain⟨q,d,qq,hd,g2⟩:=hk (Z+1) ls (g++[.nat]) (XB hs++[qE x]) c S1 (by omega) hc;have d1:=qq.cnt;have d2:=qq.tsz;have d3:=qq.mx;obtain⟨v,e,hv,he,gv⟩:=nx hL hd (n:=2) (by omega) (by omega);have bd:∀ (u:P2) (P Q:Pf),P.cnt<=800->P.tsz<=qA->P.mx<=Z+cm k+10->Q.cnt<=cp k+800->Q.tsz<=qA->Q.mx<=Z+cm k+10->P.dp<=2->Q.dp<=k+2->PG (cp (k+1)) (Z+cm (k+1)) ((k+1)+2) (.p2 u P Q):=λ u P Q b1 b2 b3 b4 b5 b6 b7 b8 =>
  ⟨by simp only [Pf.cnt];omega,by simp only [Pf.tsz];omega,by simp only [Pf.mx];omega,by cases u<;>simp only [Pf.dp]<;>omega⟩
 have bS:∀ (u:Bool) (kk:FQ),(Pf.ex u (.q kk .nat (qE x)) x (.refl x)).cnt<=800/\(Pf.ex u (.q kk .nat (qE x)) x (.refl x)).tsz<=qA/\(Pf.ex u (.q kk .nat (qE x)) x (.refl x)).mx<=Z+cm k+10:=λ u kk =>
  ⟨by simp only [Pf.cnt,Fm.cnt,lB,Tm.cnt];omega,by simp only [Pf.tsz,Fm.tsz,LB,Tm.tsz,Ty.size];omega,by simp only [Pf.mx,Fm.mx,Tm.mx];omega⟩
 have bG:∀ (u:Bool) (kk:FQ),(Pf.ex u ((Fm.q kk .nat (qE x)).sh 0 1) (.v 0) (.leaf false 0)).cnt<=cp k+800/\(Pf.ex u ((Fm.q kk .nat (qE x)).sh 0 1) (.v 0) (.leaf false 0)).tsz<=qA/\(Pf.ex u ((Fm.q kk .nat (qE x)).sh 0 1) (.v 0) (.leaf false 0)).mx<=Z+cm k+10:=λ u kk=>by
  have m2:=QE 1 (Fm.q kk .nat (qE x)) 0;have m3:(Fm.q kk .nat (qE x)).mx<=x.mx+1:=by simp only [Fm.mx,Tm.mx];omega
  exact⟨by simp only [Pf.cnt,DB,Fm.cnt,lB,Tm.cnt];omega,by simp only [Pf.tsz,MB,Fm.tsz,LB,Tm.tsz,Ty.size];omega,by simp only [Pf.mx,Tm.mx];omega⟩
 have gF:∀ kk:FQ,A 65 [(Fm.q kk .nat (qE x)).p,num 0,.int 1] ((Fm.q kk .nat (qE x)).sh 0 1).p:=λ kk=>gD _ 0 1 (by omega) (by omega) (by simp only [Fm.mx,Tm.mx];rw [hm];omega) (by simp only [Fm.cnt,lB,Tm.cnt];omega)
 cases w with
 | zero =>
  have g9:A 60 [num 10,x.p,(Pf.refl x).p] (pn 10 [x.c] [] [(Pf.refl x).c]):=fW 10 x (.refl x);have gq:=js (.q .ex .nat (qE x))
  cases v with
  | zero=>exact⟨.p2 .exUE (GK x) (.ex true ((Fm.q .exU .nat (qE x)).sh 0 1) (.v 0) (.leaf false 0)),e,(bd .exUE (GK x) (.ex true ((Fm.q .exU .nat (qE x)).sh 0 1) (.v 0) (.leaf false 0)) (bS true .exU).1 (bS true .exU).2.1 (bS true .exU).2.2 (bG true .exU).1 (bG true .exU).2.1 (bG true .exU).2.2 (Nat.zero_le _) (Nat.zero_le _)),he,Zr 1 [(16,.n [(7,.Y),(12,.D L b (.pv x.p)),(15,.r (x.sh 0 1).p),(16,.r (Tm.v 0).p),(17,.r (qE x).p),(18,.r (Fm.q .ex .nat (qE x)).p),(21,.r (Pf.refl x).p),(22,.n [(13,.r (pn 10 [x.c] [] [(Pf.refl x).c])),(15,.o [] [] (.agg [.undef,.pv (num (Fm.q .ex .nat (qE x)).tk),.pv (.slice (Fm.q .ex .nat (qE x)).te),.pv (.slice (Fm.q .ex .nat (qE x)).ts),.pv (.slice (Fm.q .ex .nat (qE x)).es)]))])]),(18,.D L c (.pv (num 0))),(300005,.f 12 [(Fm.q .exU .nat (qE x)).c]),(35,.Y),(37,.r (ZA (g++[.nat]) (XB hs))),(39,.r (ZA (g++[.nat]) (XB hs++[qE x]))),(41,.z k),(42,.D L d (.pv q.p)),(44,.D L e (.pv (num 0))),(50,.r ((Fm.q .exU .nat (qE x)).sh 0 1).p),(54,.r (Tm.v 0).p),(55,.r (Pf.leaf false 0).p),(56,.r (Pf.ex true ((Fm.q .exU .nat (qE x)).sh 0 1) (.v 0) (.leaf false 0)).p),(61,.r (Pf.p2 .exUE (GK x) (.ex true ((Fm.q .exU .nat (qE x)).sh 0 1) (.v 0) (.leaf false 0))).p)] oA g1 gu (tE 0) (PE (x.sh 0 1) (.v 0)) (cD .ex .nat (qE x)) (sB x) g9 gq gw (rfl:vA [(Fm.q .exU .nat (qE x)).c]=vA [(Fm.q .exU .nat (qE x)).c]) oA gB gW gs g2 gv (gF .exU) (tE 0) (CF 0) (oI true ((Fm.q .exU .nat (qE x)).sh 0 1) (.v 0) (.leaf false 0)) (GH 15 (GK x) (.ex true ((Fm.q .exU .nat (qE x)).sh 0 1) (.v 0) (.leaf false 0)))⟩
  | succ v=>exact⟨.p2 .exUE (GK x) q,e,(bd .exUE (GK x) q (bS true .exU).1 (bS true .exU).2.1 (bS true .exU).2.2 (by omega) d2 (by omega) (Nat.zero_le _) qq.dp),he,Te 1 [(16,.n [(7,.Y),(12,.D L b (.pv x.p)),(15,.r (x.sh 0 1).p),(16,.r (Tm.v 0).p),(17,.r (qE x).p),(18,.r (Fm.q .ex .nat (qE x)).p),(21,.r (Pf.refl x).p),(22,.n [(13,.r (pn 10 [x.c] [] [(Pf.refl x).c])),(15,.o [] [] (.agg [.undef,.pv (num (Fm.q .ex .nat (qE x)).tk),.pv (.slice (Fm.q .ex .nat (qE x)).te),.pv (.slice (Fm.q .ex .nat (qE x)).ts),.pv (.slice (Fm.q .ex .nat (qE x)).es)]))])]),(18,.D L c (.pv (num 0))),(300005,.f 12 [(Fm.q .exU .nat (qE x)).c]),(35,.Y),(37,.r (ZA (g++[.nat]) (XB hs))),(39,.r (ZA (g++[.nat]) (XB hs++[qE x]))),(41,.z k),(42,.D L d (.pv q.p)),(44,.D L e (.pv (num (v+1)))),(61,.r (Pf.p2 .exUE (GK x) q).p)] oA g1 gu (tE 0) (PE (x.sh 0 1) (.v 0)) (cD .ex .nat (qE x)) (sB x) g9 gq gw (rfl:vA [(Fm.q .exU .nat (qE x)).c]=vA [(Fm.q .exU .nat (qE x)).c]) oA gB gW gs g2 gv (GH 15 (GK x) q)⟩
 | succ w =>
  cases v with
  | zero=>exact⟨.p2 .exE (AD x) (.ex false ((Fm.q .ex .nat (qE x)).sh 0 1) (.v 0) (.leaf false 0)),e,(bd .exE (AD x) (.ex false ((Fm.q .ex .nat (qE x)).sh 0 1) (.v 0) (.leaf false 0)) (bS false .ex).1 (bS false .ex).2.1 (bS false .ex).2.2 (bG false .ex).1 (bG false .ex).2.1 (bG false .ex).2.2 (Nat.zero_le _) (Nat.zero_le _)),he,lr 1 [(16,.n [(7,.Y),(12,.D L b (.pv x.p)),(15,.r (x.sh 0 1).p),(16,.r (Tm.v 0).p),(17,.r (qE x).p),(18,.r (Fm.q .ex .nat (qE x)).p),(21,.r (Pf.refl x).p),(22,.r (AD x).p)]),(18,.D L c (.pv (num (w+1)))),(35,.Y),(37,.r (ZA (g++[.nat]) (XB hs))),(39,.r (ZA (g++[.nat]) (XB hs++[qE x]))),(41,.z k),(42,.D L d (.pv q.p)),(44,.D L e (.pv (num 0))),(50,.r ((Fm.q .ex .nat (qE x)).sh 0 1).p),(54,.r (Tm.v 0).p),(55,.r (Pf.leaf false 0).p),(56,.r (Pf.ex false ((Fm.q .ex .nat (qE x)).sh 0 1) (.v 0) (.leaf false 0)).p),(61,.r (Pf.p2 .exE (AD x) (.ex false ((Fm.q .ex .nat (qE x)).sh 0 1) (.v 0) (.leaf false 0))).p)] oA g1 gu (tE 0) (PE (x.sh 0 1) (.v 0)) (cD .ex .nat (qE x)) (sB x) (oI false (.q .ex .nat (qE x)) x (.refl x)) gw oA gB gW gs g2 gv (gF .ex) (tE 0) (CF 0) (oI false ((Fm.q .ex .nat (qE x)).sh 0 1) (.v 0) (.leaf false 0)) (GH 11 (AD x) (.ex false ((Fm.q .ex .nat (qE x)).sh 0 1) (.v 0) (.leaf false 0)))⟩
  | succ v=>exact⟨.p2 .exE (AD x) q,e,(bd .exE (AD x) q (bS false .ex).1 (bS false .ex).2.1 (bS false .ex).2.2 (by omega) d2 (by omega) (Nat.zero_le _) qq.dp),he,GP 1 [(16,.n [(7,.Y),(12,.D L b (.pv x.p)),(15,.r (x.sh 0 1).p),(16,.r (Tm.v 0).p),(17,.r (qE x).p),(18,.r (Fm.q .ex .nat (qE x)).p),(21,.r (Pf.refl x).p),(22,.r (AD x).p)]),(18,.D L c (.pv (num (w+1)))),(35,.Y),(37,.r (ZA (g++[.nat]) (XB hs))),(39,.r (ZA (g++[.nat]) (XB hs++[qE x]))),(41,.z k),(42,.D L d (.pv q.p)),(44,.D L e (.pv (num (v+1)))),(61,.r (Pf.p2 .exE (AD x) q).p)] oA g1 gu (tE 0) (PE (x.sh 0 1) (.v 0)) (cD .ex .nat (qE x)) (sB x) (oI false (.q .ex .nat (qE x)) x (.refl x)) gw oA gB gW gs g2 gv (GH 11 (AD x) q)⟩
theorem OD (H:MF) {L:List Int} (hL:Dk L):∀ k,k<=9->zB L k
 | 0,_=>Cr hL
 | k+1,h=>Yr H hL (OD H hL k (by omega)) (ws hL (OD H hL k (by omega)) (by omega)) (by omega)
open Go.Lg
theorem a5 (L:List Int):A 5 [.slice (L.map WH)] (.bool (decide (L.length<=500))):=by
 by_cases h:L.length<=500
 ·have e:(!uA (.ofNat 500) (.ofNat (L.map WH).length))=true:=by rw [JA (by simpa using h)];rfl
  rw [decide_eq_true h];exact f1 [(5,.G)] e
 ·have e:(!uA (.ofNat 500) (.ofNat (L.map WH).length))=false:=by rw [cA (by simpa using h)];rfl
  rw [decide_eq_false h];exact f1 [(5,.H)] e
abbrev PR.v (r:PR):PV:=.agg [num r.k,num r.tk,.slice r.te,.slice r.ts,.slice r.es,dA r.u]
def RQ (ls:List Fm) (g:List Ty) (hs:List Fm) (p:Pf) (r:PR):Prop:=∀ f u,r = .ok f u->nX ls g hs/\p.ck/\p.cnt<=16384/\(∃ j:Jt,j.p=p/\j.f=f/\j.D ls g hs /\ ∀ v,j.us v->v∈u)/\u.length<=16384
theorem zQ (H:MF) {Z k:Nat} {ls:List Fm} {g:List Ty} {hs:List Fm} {p:Pf} (hS:S19 Z ls g hs) (hp:PG (cp k) (Z+cm k) (k+2) p) (hk:k<=10) (hz:Z+cm k<=281474976710656):∃ r:PR,A 18 [fA ls,ZA g hs,p.p] r.p/\RQ ls g hs p r:=by
 have hm:=zA;have hbg:=kA;have e2:=HN k hk;have h1:=hS.ll;have h2:=hS.gl;have h3:=hS.hl;have hc:nB=1125899902742528:=rfl;have e3:nA=8388608:=rfl;obtain⟨r,g1,q⟩:=Pe H (X:=Z+cm k) (ls:=ls) (g:=g) (hs:=hs) (p:=p) ⟨λ f hf=>by have:=hS.lb f hf;exact⟨by omega,this.2.1,by omega⟩,λ f hf=>by have:=hS.hb f hf;exact⟨by omega,this.2.1,by omega⟩,λ s hs'=>by have:=hS.gs s hs';omega,by omega,by omega,by omega,by have:=hp.cnt;omega,hp.tsz,hp.mx,by rw [hc];omega⟩;exact⟨r,g1,λ f u e=>by
  obtain⟨k1,k2,k3,_,k4⟩:=q f u e;exact⟨k1,k2,k3,k4⟩⟩
theorem a9 (H:MF) {L:List Int} (hL:Dk L) {ls:List Fm} {g:List Ty} {hs:List Fm} {a:Nat} (hS:S19 QA ls g hs) (ha:a<=L.length):∃ (p:Pf) (r:PR) (b:Nat),((∃ f u,r = .ok f u) \/ ∃ y,p = .refl (UA y)/\y<4)/\PG (cp 2) (QA+cm 2) (2+2) p/\RQ ls g hs p r/\b<=L.length /\
  O 7 [.loc 0 0,.pv (fA ls),.pv (ZA g hs),.pv (num 2)] [(0,dk L a)] (.pv (.tuple [p.p,r.v])) [(0,dk L b)]:=by
 have hm:=zA;have hz:QA+cm 2<=281474976710656:=by decide
 have h3:=OD H hL 2 (by omega);obtain⟨p1,b1,q1,hb1,g1⟩:=h3 QA ls g hs a hS hz ha;obtain⟨r1,k1,z1⟩:=zQ H hS q1 (by omega) hz
 cases r1 with
 | ok f u=>exact⟨p1,.ok f u,b1,.inl ⟨f,u,rfl⟩,q1,z1,hb1,o2 1 [(22,.D L b1 (.pv p1.p)),(27,.r (PR.ok f u).p)] g1 k1⟩
 | er n1 =>
 obtain⟨p2,b2,q2,hb2,g2⟩:=h3 QA ls g hs b1 hS hz hb1;obtain⟨r2,k2,z2⟩:=zQ H hS q2 (by omega) hz
 cases r2 with
 | ok f u=>exact⟨p2,.ok f u,b2,.inl ⟨f,u,rfl⟩,q2,z2,hb2,o4 1 [(22,.D L b1 (.pv p1.p)),(27,.r (PR.er n1).p),(22,.D L b2 (.pv p2.p)),(27,.r (PR.ok f u).p)] g1 k1 g2 k2⟩
 | er n2 =>
 obtain⟨p3,b3,q3,hb3,g3⟩:=h3 QA ls g hs b2 hS hz hb2;obtain⟨r3,k3,z3⟩:=zQ H hS q3 (by omega) hz
 cases r3 with
 | ok f u=>exact⟨p3,.ok f u,b3,.inl ⟨f,u,rfl⟩,q3,z3,hb3,o6 1 [(22,.D L b1 (.pv p1.p)),(27,.r (PR.er n1).p),(22,.D L b2 (.pv p2.p)),(27,.r (PR.er n2).p),(22,.D L b3 (.pv p3.p)),(27,.r (PR.ok f u).p)] g1 k1 g2 k2 g3 k3⟩
 | er n3 =>
 obtain⟨p4,b4,q4,hb4,g4⟩:=h3 QA ls g hs b3 hS hz hb3;obtain⟨r4,k4,z4⟩:=zQ H hS q4 (by omega) hz
 cases r4 with
 | ok f u=>exact⟨p4,.ok f u,b4,.inl ⟨f,u,rfl⟩,q4,z4,hb4,o8 1 [(22,.D L b1 (.pv p1.p)),(27,.r (PR.er n1).p),(22,.D L b2 (.pv p2.p)),(27,.r (PR.er n2).p),(22,.D L b3 (.pv p3.p)),(27,.r (PR.er n3).p),(22,.D L b4 (.pv p4.p)),(27,.r (PR.ok f u).p)] g1 k1 g2 k2 g3 k3 g4 k4⟩
 | er n4 =>
 obtain⟨y,b5,hy,hb5,g5⟩:=nx hL hb4 (n:=4) (by omega) (by omega);have c5:(UA y).cnt<=10:=by
  rcases y with _|_|_|_|y
  ·decide
  ·decide
  ·decide
  ·decide
  ·omega
 have qr:PG (cp 2) (QA+cm 2) (2+2) (.refl (UA y)):=by
  rcases y with _|_|_|_|y
  ·exact⟨by decide,by decide,by decide,by decide⟩
  ·exact⟨by decide,by decide,by decide,by decide⟩
  ·exact⟨by decide,by decide,by decide,by decide⟩
  ·exact⟨by decide,by decide,by decide,by decide⟩
  ·omega
 obtain⟨r5,k5,z5⟩:=zQ H hS qr (by omega) hz
 cases r5 with
 | ok f u=>exact⟨.refl (UA y),.ok f u,b5,.inr ⟨y,rfl,hy⟩,qr,z5,hb5,RH 1 [(22,.D L b1 (.pv p1.p)),(27,.r (PR.er n1).p),(22,.D L b2 (.pv p2.p)),(27,.r (PR.er n2).p),(22,.D L b3 (.pv p3.p)),(27,.r (PR.er n3).p),(22,.D L b4 (.pv p4.p)),(27,.r (PR.er n4).p),(36,.D L b5 (.pv (num y))),(37,.r (UA y).p),(38,.r (Pf.refl (UA y)).p),(43,.r (PR.ok f u).p)] g1 k1 g2 k2 g3 k3 g4 k4 g5 (fH hy) (sB (UA y)) k5⟩
 | er n5=>exact⟨.refl (UA y),.er n5,b5,.inr ⟨y,rfl,hy⟩,qr,z5,hb5,RH 1 [(22,.D L b1 (.pv p1.p)),(27,.r (PR.er n1).p),(22,.D L b2 (.pv p2.p)),(27,.r (PR.er n2).p),(22,.D L b3 (.pv p3.p)),(27,.r (PR.er n3).p),(22,.D L b4 (.pv p4.p)),(27,.r (PR.er n4).p),(36,.D L b5 (.pv (num y))),(37,.r (UA y).p),(38,.r (Pf.refl (UA y)).p),(43,.r (PR.er n5).p)] g1 k1 g2 k2 g3 k3 g4 k4 g5 (fH hy) (sB (UA y)) k5⟩
abbrev sT:Tm:=.n1 .succ (.v 0)
abbrev sF:Fm:=.q .ex .nat (.eq (.v 0) (.n1 .succ (.v 1)))
abbrev sP:Pf:=.all false .nat (.ex false sF sT (.refl sT))
abbrev sJ:Jt:=.all false .nat (.ex false sF sT (.refl sT))
abbrev sR:Tm:=.lam .nat sT
theorem ss:A 15 [] sP.p:=f0 []
abbrev kX:PV:=.tuple [.agg [num 4,num 1,.slice [],.slice [],.slice [sF.c],.slice []],num 0]
theorem As:A 92 [fA [],ZA [] [],sP.p] kX:=by
 have e:(kX=kX)=BV ev Tryz.prog 100 40 92 [fA [],ZA [] [],sP.p] [] kX:=by kernel_rfl
 exact UZ WC (e ▸ rfl)
theorem Bs:sJ.OK [] 0 []:=by
 have h1:FK 1 sF:=⟨by decide,rfl,by simp [Fm.sc,Tm.sc]⟩;have h2:TK 1 sT:=⟨by decide,rfl,by simp [Tm.sc]⟩;have h3:FK 1 (.eq sT sT):=⟨by decide,rfl,by simp [Fm.sc,Tm.sc]⟩;exact⟨by decide,⟨by decide,rfl,h1.sc⟩,h1,h2,⟨h2,h3⟩,⟨.nat,rfl⟩,rfl⟩
theorem Cs:A 45 [fA [],ZA [] [],sP.p] (.tuple [sJ.ptr [],num 0]):=by
 have hm:=zA;have g2:=JD (ls:=[]) sJ 0 [] (by simp) (by decide) (by decide) Bs;exact f2 [(14,.r kX),(24,.r (sJ.ptr []))] As g2
theorem Ds:A 94 [vB [],sJ.ptr [],(wC 0 0).p] (XR.ok sR).p:=by
 have hS:=(cT 0 0).bind.var (t:=.v 0) (KD (by decide));have gp:=gT ((wC 0 0).bind.var (.v 0)) sT 1 hS.vl.symm hS.ve (by decide) (by decide) ⟨by decide,rfl,by simp [Tm.sc]⟩;have g:=de (tl:=[]) (hs:=[]) (a:=.refl sT) (x:=sF) (y:=.eq sT sT) (w:=sT) rfl gp;exact be (tl:=[]) (hs:=[]) (u:=.nat) (a:=.ex false sF sT (.refl sT)) (y:=sF) (SH (wC 0 0) (by decide)) (TH (wC 0 0).bind (.v 0) (by decide)) g (by decide)
theorem Es:A 11 [fA [],row [],ZA [] [],sP.p] (XR.ok sR).p:=by
 have g2:A 16 [fA [],row []] (num 0):=f0 [];have g3:A 47 [ZA [] []] (wC 0 0).p:=Fe [] (by decide);have g5:A 46 [row [],sJ.ptr [],(wC 0 0).p] (XR.ok sR).p:=f1 [(12,.r (XR.ok sR).p)] Ds;exact f4 [(17,.U [sJ.ptr [],num 0]),(26,.N 0),(40,.r (wC 0 0).p),(41,.r (XR.ok sR).p)] Cs g2 g3 g5
theorem a4:A 4 [] (.bool true):=by
 have g2:A 16 [fA [],row []] (num 0):=f0 [];exact f3 [(5,.r sP.p),(6,.r (XR.ok sR).p),(31,.N 0)] ss Es g2
end Go.Proofs.YtnkoaepelgbhfaaGreatDoor
namespace Go.Lg
theorem Ga.swapO {C:Ctx} {E:Env} {σ:St} {a:Act} {w:World} (h:Ga C E σ a w) {n:Nat} {o o':Ob} (hn:jA σ.objs n=some o) (ho:ObOK E w n o') (hu:∀ m∈o'.names,m∈σ.used):Ga C E ⟨σ.slots,dB σ.objs n o',σ.used⟩ a w:=by
 have hg:∀ m,jA (dB σ.objs n o') m=if m=n then some o' else jA σ.objs m:=λ m=>BD _ _ _ _
 have hs:∀ m q,jA (dB σ.objs n o') m=some q->∃ q',jA σ.objs m=some q':=λ m q h=>by
  rw [hg] at h;split at h
  ·rename_i e;subst e;exact⟨o,hn⟩
  ·exact⟨q,h⟩
 refine⟨h.slots,h.size,h.defers,h.heap,?_,?_,h.usedS,?_,h.usedG,h.grown,h.rest,h.same,h.hle,?_,h.ext,?_⟩
 ·intro m q hm;simp only [hg] at hm;split at hm
  ·rename_i e;cases hm;subst e;exact ho
  ·exact h.objs m q hm
 ·intro m m' q q' hm hm' hne b hb;obtain⟨p,hp⟩:=hs m q hm;obtain⟨p',hp'⟩:=hs m' q' hm';exact h.apart m m' p p' hp hp' hne b hb
 ·intro m q hm;simp only [hg] at hm;split at hm
  ·rename_i e;cases hm;subst e;exact⟨(h.usedO _ _ hn).1,hu⟩
  ·exact h.usedO m q hm
 ·intro m q b hm hb hlt;obtain⟨p,hp⟩:=hs m q hm;exact h.own m p b hp hb hlt
 ·intro m hm;obtain⟨k1,k2,k3⟩:=h.keep m hm;refine⟨k1,?_,k3⟩;simp only [hg];split
  ·rename_i e;subst e;rw [hn] at k2;cases k2
  ·exact k2
theorem Ga.slotW {C:Ctx} {E:Env} {σ:St} {a:Act} {w:World} (h:Ga C E σ a w) {d:Nat} {x:V} {v:Value} (hx:RepV E x v) (hn:∀ n∈x.names,n∈σ.used) (hd:d<C.nt):Ga C E ⟨(d,x)::σ.slots,σ.objs,σ.used⟩ (a.put (some d) v) w :=
 h.pure E.H (some d) x v (Hle.refl _) (Nat.le_refl _) ⟨rfl,rfl,rfl⟩ (λ _ _=>⟨rfl,rfl⟩) h.heap hx hn (λ _ e=>by cases e;exact hd)
theorem jQ {C:Ctx} {E:Env} {σ:St} {a:Act} {w:World} (h:Ga C E σ a w) {d:Nat} (hd:d<C.nt) (v:Value):(a.put (some d) v).eval (.tmp d)=v:=by
 have:d<a.tmps.size:=by rw [h.size];exact hd
 simp [Act.put,Act.eval,this]
section
variable {X:PA} {id:Nat} {σ:St} {Q:AB->St->Prop} {t1 t2 t3:Nat} {p1 p2 p3:String} {f1 f2 f3:Array Edge}
theorem AWP.range {n r b ck t kt vt:Nat} {ms:Array MapEntry} {s d1 d2:Nat} (hs:IA σ.slots s = .map n) (ho:jA σ.objs n=some (.raw (.map (some b)) (.map ms ck))) (hr:r ∉ σ.used) (hu:X.P.underlying t=some (.map kt vt)) (h1:d1<X.nt) (h2:d2<X.nt)
  (hQ:∀ rb,Q .normal ⟨(d2,.loc r 0)::(d1,.map n)::σ.slots,dB σ.objs r (.raw (.pointer (some ⟨rb,0,none⟩)) (.mapIter (some b) ck #[] ck)),r::σ.used⟩) :
  AWP X (.region id #[⟨some d1,.move (.tmp s),t1,p1,f1,none⟩,⟨some d2,.range t (.tmp d1),t2,p2,f2,none⟩] false) σ Q:=by
 intro C E a w hC hG;have hd1:d1<C.nt:=by rw [hC.nt];exact h1
 have hd2:d2<C.nt:=by rw [hC.nt];exact h2
 have hv:=hG.slots s;rw [hs] at hv;simp only [RepV] at hv;obtain⟨b',hg,hv⟩:=hv;obtain⟨hg',b0,hb0,hcell,hfree⟩:=hG.objs n _ ho;rw [hg'] at hg;cases hg;cases hb0;have hG1:Ga C E ⟨(d1,.map n)::σ.slots,σ.objs,σ.used⟩ (a.put (some d1) (a.eval (.tmp s))) w:=hG.slotW (x:=.map n) (v:=a.eval (.tmp s)) (by
  simp only [RepV];exact⟨b,hg',hv⟩) (λ m hm=>by
   have:=hG.usedS s;rw [hs] at this;exact this m hm) hd1
 have hv1:(a.put (some d1) (a.eval (.tmp s))).eval (.tmp d1) = .map (some b):=by rw [jQ hG hd1];exact hv
 have hrun:=run_range_map (P:=X.P) w t kt vt b ms ck hu hcell;refine wp_region_list ?_;refine wpList_plain rfl λ K hK => ?_
 refine OpRes.wp (v:=a.eval (.tmp s)) (w':=w) (.inl (by simp [execOp])) (hK _ _ ?_);refine wpList_plain rfl λ K hK => ?_
 refine OpRes.wp (v:=.pointer (some ⟨w.heap.size,0,none⟩)) (w':=w.alloc (.mapIter (some b) ck #[] ck)) (.inl (by
  simp only [execOp,hv1,Sem.run_bind,hrun,Result.andThen_ok,Sem.run_pure])) (hK _ _ ?_)
 let E':Env:={ E with g:=λ m=>if m=r then .pointer (some ⟨w.heap.size,0,none⟩) else E.g m };have hgr:E'.g r = .pointer (some ⟨w.heap.size,0,none⟩):=by simp [E']
 have hE:∀ m,m≠r->E'.g m=E.g m/\E'.ver m=E.ver m/\E'.sz m=E.sz m:=λ m hm=>⟨by simp [E',hm],rfl,rfl⟩
 refine⟨E',_,.normal,?_,rfl,hQ w.heap.size⟩;refine hG1.change (E':=E') r (some (.raw (.pointer (some ⟨w.heap.size,0,none⟩)) (.mapIter (some b) ck #[] ck))) _ (r::σ.used) (some d2) (.loc r 0) _ (λ m=>BD _ _ _ _) (Hle.refl _) hE (λ hk=>absurd hk hr) (λ hk=>absurd hk hr)
  (by simp) ⟨rfl,rfl,rfl⟩ (λ b hb _=>⟨@heap_alloc_old w _ b hb,rfl⟩) (XN hG1.heap _ E' rfl) ?_ ?_ (λ m hm=>by simp [hm]) ?_ ?_ (λ _ e=>by cases e;exact hd2)
 ·intro o' e;cases e;exact⟨⟨hgr,w.heap.size,rfl,heap_alloc_new w _,hG1.heap.lt (Nat.le_refl _)⟩,by simp,by simp [Ob.names]⟩
 ·intro o' b e hb;rw [hgr] at hb;simp [OA] at hb;omega
 ·exact⟨_,hgr,rfl⟩
 ·simp [V.names]
theorem AWP.next {n r b rb ck since c0:Nat} {ms:Array MapEntry} {seen:Array Nat} {s d1 d2:Nat} (hne:n≠r) (hs:IA σ.slots s = .loc r 0) (ho:jA σ.objs n=some (.raw (.map (some b)) (.map ms ck))) (hi:jA σ.objs r=some (.raw (.pointer (some ⟨rb,0,none⟩)) (.mapIter (some b) since seen c0)))
  (hold:∀ x∈ms.toList,x.born<since) (hsc:since<=c0) (h1:d1<X.nt) (h2:d2<X.nt)
  (hQ0:(leftOf ms seen).size=0->Q .normal ⟨(d2,.pv (.bool false))::(d1,.undef)::σ.slots,σ.objs,σ.used⟩)
  (hQ1:∀ e∈(leftOf ms seen).toList,Q .normal ⟨(d2,.pv (.bool true))::(d1,.undef)::σ.slots,dB σ.objs r (.raw (.pointer (some ⟨rb,0,none⟩)) (.mapIter (some b) since (seen.push e.born) ck)),σ.used⟩) :
  AWP X (.region id #[⟨some d1,.next (.tmp s) false,t1,p1,f1,none⟩,⟨some d2,.extract (.tmp d1) 0,t2,p2,f2,none⟩] false) σ Q:=by
 intro C E a w hC hG;have hd1:d1<C.nt:=by rw [hC.nt];exact h1
 have hd2:d2<C.nt:=by rw [hC.nt];exact h2
 have hv:=hG.slots s;rw [hs] at hv;simp only [RepV] at hv;obtain⟨b1,hg1,hv⟩:=hv;obtain⟨hgm,b2,hb2,hcell,hfree⟩:=hG.objs n _ ho;obtain⟨hgr,b3,hb3,hcr,hfr⟩:=hG.objs r _ hi;rw [hgr] at hg1;cases hg1;cases hb2;cases hb3;have hbr:b≠rb:=λ e=>hG.apart n r _ _ ho hi hne b (by rw [hgm];rfl) (by rw [hgr,e];rfl)
 have hrl:rb<w.heap.size:=(Array.getElem?_eq_some_iff.1 hcr).1;have hv:a.eval (.tmp s) = .pointer (some ⟨rb,0,none⟩):=hv;refine wp_region_list ?_;refine wpList_plain rfl λ K hK => ?_
 rcases run_next_at (P:=X.P) w t1 rb b since c0 seen ms ck hcr hcell hold hsc with ⟨h0,hrun⟩|⟨e,he,w1,hal,hrun⟩
 ·refine OpRes.wp (v:=.tuple #[.bool false]) (w':=w) (.inl (by simp only [execOp,hv,Sem.run_bind,hrun,Result.andThen_ok,Sem.run_pure])) (hK _ _ ?_);have hG1:Ga C E ⟨(d1,.undef)::σ.slots,σ.objs,σ.used⟩ (a.put (some d1) (.tuple #[.bool false])) w:=hG.slotW (x:=.undef) trivial (λ m hm=>by cases hm) hd1;refine wpList_plain rfl λ K hK => ?_
  refine OpRes.wp (v:=.bool false) (w':=w) (.inl (by simp only [execOp,jQ hG hd1];rfl)) (hK _ _ ?_);exact⟨E,_,.normal,hG1.slotW (x:=.pv (.bool false)) (by simp [RepV,RepP]) (λ m hm=>by cases hm) hd2,rfl,hQ0 h0⟩
 ·have hw1:w1.heap=w.heap/\w1.os=w.os/\w1.tape=w.tape/\w1.output=w.output:=by rcases hal with rfl|rfl<;>exact⟨rfl,rfl,rfl,rfl⟩
  refine OpRes.wp (v:=.tuple #[.bool true,e.key,e.val]) (w':=ChangeMaps.setBlock w1 rb (.mapIter (some b) since (seen.push e.born) ck)) (.inl (by simp only [execOp,hv,Sem.run_bind,hrun,Result.andThen_ok,Sem.run_pure])) (hK _ _ ?_);have hset:∀ i,(ChangeMaps.setBlock w1 rb (.mapIter (some b) since (seen.push e.born) ck)).heap[i]? = if i=rb then some (.mapIter (some b) since (seen.push e.born) ck) else w.heap[i]?:=by
   intro i;simp only [ChangeMaps.setBlock,hw1.1];by_cases hi:i=rb
   ·subst hi;simp [hrl]
   ·rw [if_neg hi,Array.getElem?_setIfInBounds_ne (λ h=>hi h.symm)]
  have hG1:Ga C E ⟨(d1,.undef)::σ.slots,dB σ.objs r (.raw (.pointer (some ⟨rb,0,none⟩)) (.mapIter (some b) since (seen.push e.born) ck)),σ.used⟩ (a.put (some d1) (.tuple #[.bool true,e.key,e.val])) (ChangeMaps.setBlock w1 rb (.mapIter (some b) since (seen.push e.born) ck)):=by
   refine hG.change (E':=E) r (some (.raw (.pointer (some ⟨rb,0,none⟩)) (.mapIter (some b) since (seen.push e.born) ck))) _ σ.used (some d1) .undef _ (λ m=>BD _ _ _ _) (Hle.refl _) (λ _ _=>⟨rfl,rfl,rfl⟩) (λ _=>EExt.refl _ _) (λ _=>⟨_,hi⟩)
    (by simp [ChangeMaps.setBlock,hw1.1]) ⟨hw1.2.1,hw1.2.2.1,hw1.2.2.2⟩ (λ i hlt hne'=>⟨by rw [hset,if_neg (λ h=>hne' _ hi (by rw [hgr,h];rfl))],rfl⟩) ?_ ?_ ?_ (λ _ h=>h) trivial (λ m hm=>by cases hm) (λ _ e=>by cases e;exact hd1)
   ·intro i hi';have:i≠rb:=λ h=>hi' (h ▸ hfr)
    obtain⟨c,T',fr,hc,hp⟩:=hG.heap i hi';exact⟨c,T',fr,by rw [hset,if_neg this];exact hc,hp⟩
   ·intro o' e';cases e';exact⟨⟨hgr,rb,rfl,by rw [hset,if_pos rfl],hfr⟩,(hG.usedO r _ hi).1,by simp [Ob.names]⟩
   ·intro o' b' e' hb';exact .inr ⟨hb',_,hi⟩
  refine wpList_plain rfl λ K hK => ?_
  refine OpRes.wp (v:=.bool true) (w':=_) (.inl (by simp only [execOp,jQ hG hd1];rfl)) (hK _ _ ?_);exact⟨E,_,.normal,hG1.slotW (x:=.pv (.bool true)) (by simp [RepV,RepP]) (λ m hm=>by cases hm) hd2,rfl,hQ1 e he⟩
theorem AWP.entry {n r b rb ck since:Nat} {ms:Array MapEntry} {seen:Array Nat} {e:MapEntry} {z:Int} {s d1 d2 d3:Nat} (hs:IA σ.slots s = .loc r 0) (ho:jA σ.objs n=some (.raw (.map (some b)) (.map ms ck))) (hi:jA σ.objs r=some (.raw (.pointer (some ⟨rb,0,none⟩)) (.mapIter (some b) since (seen.push e.born) ck)))
  (he:e∈ms.toList) (hnd:(ms.toList.map (·.born)).Nodup) (hz:e.key = .int .i64 z) (h1:d1<X.nt) (h2:d2<X.nt) (h3:d3<X.nt)
  (hQ:Q .normal ⟨(d3,.pv (.int z))::(d2,.pv (.int z))::(d1,.undef)::σ.slots,σ.objs,σ.used⟩) :
  AWP X (.region id #[⟨some d1,.entry (.tmp s),t1,p1,f1,none⟩,⟨some d2,.extract (.tmp d1) 0,t2,p2,f2,none⟩,⟨some d3,.assign (.tmp d2),t3,p3,f3,none⟩] false) σ Q:=by
 intro C E a w hC hG;have hd1:d1<C.nt:=by rw [hC.nt];exact h1
 have hd2:d2<C.nt:=by rw [hC.nt];exact h2
 have hd3:d3<C.nt:=by rw [hC.nt];exact h3
 have hv:=hG.slots s;rw [hs] at hv;simp only [RepV] at hv;obtain⟨b1,hg1,hv⟩:=hv;obtain⟨hgm,b2,hb2,hcell,hfree⟩:=hG.objs n _ ho;obtain⟨hgr,b3,hb3,hcr,hfr⟩:=hG.objs r _ hi;rw [hgr] at hg1;cases hg1;cases hb2;cases hb3;have hv:a.eval (.tmp s) = .pointer (some ⟨rb,0,none⟩):=hv;have hrun:=run_entry_at (P:=X.P) w rb b since seen ms ck e hcr hcell he hnd;refine wp_region_list ?_;refine wpList_plain rfl λ K hK => ?_
 refine OpRes.wp (v:=.tuple #[e.key,e.val]) (w':=w) (.inl (by simp only [execOp,hv,Sem.run_bind,hrun,Result.andThen_ok,Sem.run_pure])) (hK _ _ ?_);have hG1:Ga C E ⟨(d1,.undef)::σ.slots,σ.objs,σ.used⟩ (a.put (some d1) (.tuple #[e.key,e.val])) w:=hG.slotW (x:=.undef) trivial (λ m hm=>by cases hm) hd1;refine wpList_plain rfl λ K hK => ?_
 refine OpRes.wp (v:=.int .i64 z) (w':=w) (.inl (by simp only [execOp,jQ hG hd1,hz];rfl)) (hK _ _ ?_);have hG2:=hG1.slotW (d:=d2) (x:=.pv (.int z)) (v:=.int .i64 z) (by simp [RepV,RepP]) (λ m hm=>by cases hm) hd2;refine wpList_plain rfl λ K hK => ?_
 refine OpRes.wp (v:=.int .i64 z) (w':=w) (.inl (by simp only [execOp,jQ hG1 hd2];rfl)) (hK _ _ ?_);exact⟨E,_,.normal,hG2.slotW (x:=.pv (.int z)) (by simp [RepV,RepP]) (λ m hm=>by cases hm) hd3,rfl,hQ⟩
end
end Go.Lg
namespace Go.Proofs.YtnkoaepelgbhfaaGreatDoor
open Go.Lg
set_option maxRecDepth 100000
abbrev vN (L:List Nat):List (List V):=vA (L.map ic)
theorem CX (A B:List Nat) (x:Nat):PB (vN (A++x::B)) A.length=some [.pv (num x)]:=by
 rw [NG,Xh];simp [ic,xA]
theorem df (A:List Nat):(vN A).length=A.length:=by simp [vN,vA]
theorem lf (A B:List Nat) (x y:Nat):(vN (A++x::B)).set A.length [.pv (num y)]=vN (A++y::B):=by
 simp only [vN,vA,List.map_append,List.map_cons];rw [show A.length=(List.map xA (List.map ic A)).length by simp,List.set_append_right _ _ (Nat.le_refl _),Nat.sub_self];rfl
theorem DX {n v k len:Nat} {es:List (List V)} (h1:k<len) (h2:len<=es.length):ro (bif Nat.beq v v then (bif Nat.blt k len then (bif Nat.beq 1 1 then (bif Nat.ble len es.length then some (V.eloc n v k 0) else none) else none) else none) else none)=some ⟨.eloc n v k 0,none,false⟩:=by
 rw [mE rfl,show Nat.blt k len=true from Nat.ble_eq_true_of_le h1,show Nat.ble len es.length=true from Nat.ble_eq_true_of_le h2];rfl
theorem Fs {v k:Nat} {es:List (List V)} {x:V} (h:PB es k=some [x]):ro (match PB es k with
   | some e=>bif Nat.beq v v then pO false 1 (uJ e 0) else none
   | none=>none)=some ⟨x,none,false⟩:=by
 rw [h,mE rfl];rfl
theorem sf {n v k:Nat} {es es':List (List V)} {x y:V} (h:PB es k=some [x]) (h':es.set k [y]=es'):(bif Nat.beq v v then (bif Nat.ble (0+1) 1 then (match PB es k with
    | some e=>some (⟨.undef,some (n,.arr v 1 3 (es.set k (kD e 0 [y]))),false⟩:RB)
    | none=>none) else none) else none)=some ⟨.undef,some (n,.arr v 1 3 es'),false⟩:=by
 rw [h,mE rfl];subst h';rfl
theorem Gs {a:Nat} (h:a<=bA):aA (Int.ofNat (a+1)-1)=true/\Int.ofNat (a+1)-1 = .ofNat a:=by
 have e:Int.ofNat (a+1)-1 = .ofNat a:=by simp
 exact⟨by rw [e];exact TM (by simp;try omega) (by have:=h;simp [bA] at *;omega),e⟩
abbrev WL (mv:Value) (mo:Obj) (iv:Value) (io:Obj) (v:Nat) (L:List Nat):List (Nat × Ob):=[(0,.raw mv mo),(1,.raw iv io),(2,.arr v 1 3 (vN L))]
abbrev IN (v len n i:Nat):List (Nat × V):=[(3,.arr 2 v len),(4,.pv (num n)),(5,.pv (num i)),(7,.loc 1 0)]
abbrev JN:Kp:=⟨[3,4,5,7],[0,1,2],3,[]⟩
section
variable {mv iv:Value} {mo io:Obj} {n v len:Nat}
theorem tf:∀ (k:Nat) (A:List Nat) (y:Nat) (B:List Nat),A.length=k->len=A.length+1+B.length->len<=bA ->
  ∃ (A':List Nat) (y':Nat) (B':List Nat),A'++B'=A++B/\(∀ x∈B',x∈B\/n<x)/\(∀ h:A'≠[],A'.getLast h<=n) /\
   Lp 220 1 1 (st (IN v len n A.length) (WL mv mo iv io v (A++y::B)) 3 []) (.exit 2) (st (IN v len n A'.length) (WL mv mo iv io v (A'++y'::B')) 3 [])
 | 0,A,y,B,hk,hl,hb=>by
  have e:A=[]:=List.length_eq_zero_iff.1 hk;subst e;exact⟨[],y,B,rfl,λ x hx => .inl hx,λ h=>absurd rfl h,y1 [(19,.H)] JN (JA (Nat.le_refl 0)) (QC ((y::B).map ic))⟩
 | k+1,A,y,B,hk,hl,hb=>by
  have hne:A≠[]:=λ e=>by subst e;cases hk
  obtain⟨A0,x,rfl⟩:∃ A0 x,A=A0++[x]:=⟨A.dropLast,A.getLast hne,(List.dropLast_concat_getLast hne).symm⟩;have e0:A0.length=k:=by simpa using hk
  have el:(A0++[x]).length=A0.length+1:=by simp
  have ea:A0++[x]++y::B=A0++x::y::B:=by simp
  have gl:(vN (A0++x::y::B)).length=len:=by rw [df];simp at hl ⊢;omega
  rw [el] at hl ⊢;rw [ea];have g1:=cA (show 0<A0.length+1 by omega);have g2:=Gs (a:=A0.length) (by omega);have g3:=DX (n:=2) (v:=v) (k:=A0.length) (len:=len) (es:=vN (A0++x::y::B)) (by omega) (by omega);have g4:=Fs (v:=v) (CX A0 (y::B) x);by_cases hx:n<x
  ·obtain⟨A',y',B',h1,h2,h3,ih⟩:=tf k A0 x (x::B) e0 (by simp;omega) hb;have g6:=DX (n:=2) (v:=v) (k:=A0.length+1) (len:=len) (es:=vN (A0++x::y::B)) (by omega) (by omega);have g7:=sf (n:=2) (v:=v) (k:=A0.length+1) (es:=vN (A0++x::y::B)) (es':=vN (A0++x::x::B)) (y:=.pv (num x)) (by
    have:=CX (A0++[x]) B y;simpa using this) (by
    have:=lf (A0++[x]) B y x;simpa using this)
   refine⟨A',y',B',by simpa using h1,λ z hz => ?_,h3,?_⟩
   ·rcases h2 z hz with h|h
    ·rcases List.mem_cons.1 h with rfl|h
     ·exact .inr hx
     ·exact .inl h
    ·exact .inr h
   ·exact rk [(19,.G),(23,.z A0.length),(24,.w ⟨.eloc 2 v A0.length 0,none,false⟩),(25,.w ⟨.pv (num x),none,false⟩),(27,.G),(33,.z A0.length),(34,.w ⟨.eloc 2 v A0.length 0,none,false⟩),(35,.w ⟨.pv (num x),none,false⟩),(36,.w ⟨.eloc 2 v (A0.length+1) 0,none,false⟩),(99999,.w ⟨.undef,some (2,.arr v 1 3 (vN (A0++x::x::B))),false⟩),(38,.z A0.length)] JN JN (And.intro g1 (And.intro g2 (And.intro g3 (And.intro g4 (And.intro (cA hx) (And.intro g2 (And.intro g3 (And.intro g4 (And.intro g6 (And.intro g7 (And.intro g2 (And.intro (QC ((A0++x::x::B).map ic)) ih))))))))))))
  ·refine⟨A0++[x],y,B,by simp,λ z hz => .inl hz,λ _=>by simp;omega,?_⟩;rw [el,ea];exact y5 [(19,.G),(23,.z A0.length),(24,.w ⟨.eloc 2 v A0.length 0,none,false⟩),(25,.w ⟨.pv (num x),none,false⟩),(27,.H)] JN g1 g2 g3 g4 (JA (show x<=n by omega)) (QC ((A0++x::y::B).map ic))
end
end Go.Proofs.YtnkoaepelgbhfaaGreatDoor
namespace Go.Lg
section
variable {ev:wB} {P:Program}
def HK (ev:wB) (P:Program) (n N nt bs:Nat) (b:Code) (s:IS) (tp:Di) (ko:Kp) (e:AE) (s':IS):Prop :=
 pE ev P (aJ ev P N n) N nt bs b s tp λ e1 s1 _=>e1=e/\gd (bI ko bs s1) (nF s1.ob ko.on (WF ko s1=s'))
theorem Reach.of_go (he:rJ ev P) {n N nt bs:Nat} {b:Code} {s s':IS} {tp:Di} {ko:Kp} {e:AE} (h:HK ev P n N nt bs b s tp ko e s'):Reach ev P nt bs b s e s':=by
 obtain⟨e1,s1,tp1,h1,rfl,h2⟩:=dD (IM he N n) _ _ _ _ h;obtain⟨hk,h2⟩:=RD h2;obtain⟨h2,ha⟩:=iH h2;exact h2 ▸ h1.keep (fL hk ha)
theorem Rel.slotT {s:IS} {σ:St} (h:Rel s σ) (d:Nat) (x:V):Rel ⟨s.sl.put d (some x),s.ob,s.nx,s.dt⟩ ⟨(d,x)::σ.slots,σ.objs,σ.used⟩:=by
 refine⟨λ t => ?_,h.ob,h.us⟩;show (if d=t then x else IA σ.slots t)=_;rw [Tr.get_put];by_cases e:t=d
 ·subst e;simp
 ·rw [if_neg e,if_neg (λ h=>e h.symm)];exact h.sl t
theorem Rel.objT {s:IS} {σ:St} (h:Rel s σ) (n:Nat) (o:Ob):Rel ⟨s.sl,s.ob.put n (some o),s.nx,s.dt⟩ ⟨σ.slots,dB σ.objs n o,σ.used⟩:=by
 refine⟨h.sl,λ m => ?_,h.us⟩;show jA (dB σ.objs n o) m=_;rw [BD,Tr.get_put];by_cases e:m=n
 ·rw [if_pos e,if_pos e]
 ·rw [if_neg e,if_neg e];exact h.ob m
theorem Rel.newT {s:IS} {σ:St} (h:Rel s σ) (o:Ob):Rel ⟨s.sl,s.ob.put s.nx (some o),s.nx+1,s.dt⟩ ⟨σ.slots,dB σ.objs s.nx o,s.nx::σ.used⟩:=by
 have:=h.objT s.nx o;exact⟨this.sl,this.ob,λ m hm=>by
  rcases List.mem_cons.1 hm with rfl|hm
  ·exact Nat.lt_succ_self _
  ·exact Nat.lt_succ_of_lt (h.us m hm)⟩
theorem Rel.keep {nt bs:Nat} {X:PA} (hX:HX X ev P nt bs) {s s':IS} {σ:St} (h:Rel s σ) (k:Kp) (hk:bI k bs s=true) (ha:nF s.ob k.on True) (he:WF k s=s'):∃ τ,uL X σ τ/\Rel s' τ:=he ▸ (fL hk (iH ha).2).wk hX h
end
end Go.Lg
namespace Go.Proofs.YtnkoaepelgbhfaaGreatDoor
open Go.Lg
set_option maxRecDepth 100000
def cs1:Code->Code
 | .seq a _=>a
 | c=>c
def cs2:Code->Code
 | .seq _ b=>b
 | c=>c
def af:Code->Code
 | .block _ b=>b
 | .loop b=>b
 | c=>c
noncomputable def PI:Code:=wW 220 0
noncomputable def cf:Code:=cs1 PI
noncomputable def EX:Code:=cs1 (cs2 PI)
noncomputable def FX:Code:=cs1 (af (cs2 (cs2 PI)))
noncomputable def GX:Code:=cs2 (af (cs2 (cs2 PI)))
theorem Hs:PI = .seq cf (.seq EX (.block 1 (.seq FX GX))):=by kernel_rfl
theorem Js:∃ i t1 t2 p1 p2 f1 f2,cf = .region i #[⟨some 8,.next (.tmp 7) false,t1,p1,f1,none⟩,⟨some 9,.extract (.tmp 8) 0,t2,p2,f2,none⟩] false:=⟨_,_,_,_,_,_,_,rfl⟩
theorem Ks:∃ i t1 t2 t3 p1 p2 p3 f1 f2 f3,FX = .region i #[⟨some 10,.entry (.tmp 7),t1,p1,f1,none⟩,⟨some 11,.extract (.tmp 10) 0,t2,p2,f2,none⟩,⟨some 4,.assign (.tmp 11),t3,p3,f3,none⟩] false:=⟨_,_,_,_,_,_,_,_,_,_,rfl⟩
noncomputable def EG:Code:=match (fnc 220).body with
 | some c=>c
 | none => .skip
theorem Ls:EG = .seq (cs1 EG) (.seq (cs1 (cs2 EG)) (.seq (.seq (cs1 (cs1 (cs2 (cs2 EG)))) (.block 0 (.loop PI))) (cs2 (cs2 (cs2 EG))))):=by kernel_rfl
theorem Ms:∃ i t1 t2 p1 p2 f1 f2,cs1 (cs1 (cs2 (cs2 EG))) = .region i #[⟨some 6,.move (.tmp 0),t1,p1,f1,none⟩,⟨some 7,.range 239 (.tmp 6),t2,p2,f2,none⟩] false:=⟨_,_,_,_,_,_,_,rfl⟩
theorem IX:(fnc 220).ntmps=44:=by kernel_rfl
abbrev Rc (bs f:Nat) (c:Code) (s:IS) (e:AE) (s':IS):Prop:=Go.Lg.Reach ev Tryz.prog (fnc f).ntmps bs c s e s'
section
variable {f bs:Nat} {c:Code} {s s':IS} {e:AE}
theorem XL (tp:Di) (ko:Kp) {N:Prop}  (m:N) (q:(e=e/\N/\s'=s')=HK ev Tryz.prog 6 100 (fnc f).ntmps bs c s tp ko e s':=by kernel_rfl):Rc bs f c s e s':=Reach.of_go WC (q ▸ (⟨rfl,m,rfl⟩:e=e/\N/\s'=s'))
theorem Ns (tp:Di) (ko:Kp) {H1 N:Prop} (h1:H1) (m:N) (q:(H1/\e=e/\N/\s'=s')=HK ev Tryz.prog 6 100 (fnc f).ntmps bs c s tp ko e s':=by kernel_rfl):Rc bs f c s e s':=Reach.of_go WC (q ▸ (⟨h1,rfl,m,rfl⟩:H1/\e=e/\N/\s'=s'))
theorem xf (tp:Di) (ko:Kp) {H1 H2 N:Prop} (h1:H1) (h2:H2) (m:N) (q:(H1/\H2/\e=e/\N/\s'=s')=HK ev Tryz.prog 6 100 (fnc f).ntmps bs c s tp ko e s':=by kernel_rfl):Rc bs f c s e s':=Reach.of_go WC (q ▸ (⟨h1,h2,rfl,m,rfl⟩:H1/\H2/\e=e/\N/\s'=s'))
theorem Qs (tp:Di) (ko:Kp) {H1 H2 H3 N:Prop} (h1:H1) (h2:H2) (h3:H3) (m:N) (q:(H1/\H2/\H3/\e=e/\N/\s'=s')=HK ev Tryz.prog 6 100 (fnc f).ntmps bs c s tp ko e s':=by kernel_rfl):Rc bs f c s e s':=Reach.of_go WC (q ▸ (⟨h1,h2,h3,rfl,m,rfl⟩:H1/\H2/\H3/\e=e/\N/\s'=s'))
theorem Af (tp:Di) (ko:Kp) {H1 H2 H3 H4 N:Prop} (h1:H1) (h2:H2) (h3:H3) (h4:H4) (m:N) (q:(H1/\H2/\H3/\H4/\e=e/\N/\s'=s')=HK ev Tryz.prog 6 100 (fnc f).ntmps bs c s tp ko e s':=by kernel_rfl):Rc bs f c s e s':=Reach.of_go WC (q ▸ (⟨h1,h2,h3,h4,rfl,m,rfl⟩:H1/\H2/\H3/\H4/\e=e/\N/\s'=s'))
theorem Bf (tp:Di) (ko:Kp) {H1 H2 H3 H4 H5 H6 N:Prop} (h1:H1) (h2:H2) (h3:H3) (h4:H4) (h5:H5) (h6:H6) (m:N) (q:(H1/\H2/\H3/\H4/\H5/\H6/\e=e/\N/\s'=s')=HK ev Tryz.prog 6 100 (fnc f).ntmps bs c s tp ko e s':=by kernel_rfl):Rc bs f c s e s':=Reach.of_go WC (q ▸ (⟨h1,h2,h3,h4,h5,h6,rfl,m,rfl⟩:H1/\H2/\H3/\H4/\H5/\H6/\e=e/\N/\s'=s'))
end
section
variable (mv iv:Value) (mo io:Obj)
def hs:Nat->List Nat->IS
 | 0,_=>st [(3,.pv .nils),(7,.loc 1 0)] [(0,.raw mv mo),(1,.raw iv io)] 2 []
 | v+1,L=>st [(3,.arr 2 (v+1) (v+1)),(7,.loc 1 0)] (WL mv mo iv io (v+1) L) 3 []
def qs (n:Nat):Nat->List Nat->IS
 | 0,_=>st [(3,.pv .nils),(4,.pv (num n)),(7,.loc 1 0)] [(0,.raw mv mo),(1,.raw iv io)] 2 []
 | v+1,L=>st [(3,.arr 2 (v+1) (v+1)),(4,.pv (num n)),(7,.loc 1 0)] (WL mv mo iv io (v+1) L) 3 []
def YL:Nat->List Nat->IS
 | 0,_=>st [(3,.pv .nils)] [(0,.raw mv mo)] 3 []
 | v+1,L=>st [(3,.arr 2 (v+1) (v+1))] [(0,.raw mv mo),(2,.arr (v+1) 1 3 (vN L))] 3 []
end
theorem Rs {v len:Nat} : ro (bif Nat.beq v v then some (V.pv (.int (.ofNat len))) else none)=some ⟨.pv (num len),none,false⟩:=by rw [mE rfl];rfl
theorem Ss {A:List (List PV)} {k v sz ty m:Nat} {c:List PV} (hk:A.length=k) (h0:0<sz) (h1:gC sz [xA c]=true) (h2:lC [xA c]=true) (h3:k+1<=maxLen) (h4:(k+1) * m<=140737488355328) :
  (Nat.beq v v && Nat.ble k (vA A).length && Nat.beq ty ty && Nat.beq sz sz && Nat.blt 0 sz && gC sz [xA c] && lC [xA c] && Nat.ble (k+[xA c].length) maxLen && Nat.ble ((k+[xA c].length) * m) 140737488355328)=true:=by
 subst hk;exact GL h0 h1 h2 h3 h4
section
variable {mv iv:Value} {mo io:Obj}
theorem Ts (n v:Nat) (L:List Nat) (hv:L.length=v) (hb:v+1<=bA) (hm:v+1<=maxLen) (hm':(v+1) * 8<=140737488355328) :
  ∃ A B,A++B=L/\(∀ x∈B,n<x)/\(∀ h:A≠[],A.getLast h<=n)/\Rc 1 220 GX (qs mv iv mo io n v L) .normal (hs mv iv mo io (v+1) (A++n::B)):=by
 obtain⟨A,y,B,h1,h2,h3,h⟩:=tf (mv:=mv) (mo:=mo) (iv:=iv) (io:=io) (n:=n) (v:=v+1) (len:=v+1) v L n [] hv (by simp;omega) hb;rw [List.append_nil] at h1;have h2:∀ x∈B,n<x:=λ x hx=>(h2 x hx).resolve_left (by simp)
 have hl:A.length+B.length=v:=by rw [<- hv,<- h1];simp
 have gl:(vN (A++y::B)).length=v+1:=by rw [df];simp;omega
 have g6:=DX (n:=2) (v:=v+1) (k:=A.length) (len:=v+1) (es:=vN (A++y::B)) (by omega) (by omega);have g7:=sf (n:=2) (v:=v+1) (k:=A.length) (es:=vN (A++y::B)) (es':=vN (A++n::B)) (y:=.pv (num n)) (CX A B y) (lf A B y n);refine⟨A,B,h1,h2,h3,?_⟩;rw [hv] at h
 cases v with
 | zero =>
  have e:=List.length_eq_zero_iff.1 hv;subst e;exact Af [(100007,.l JN (.exit 2) (st (IN 1 1 n A.length) (WL mv mo iv io 1 (A++y::B)) 3 [])),(42,.w ⟨.eloc 2 1 A.length 0,none,false⟩),(99999,.w ⟨.undef,some (2,.arr 1 1 3 (vN (A++n::B))),false⟩)] ⟨[3,7],[0,1,2],3,[]⟩ (QC [ic n]) h g6 g7 (QC ((A++n::B).map ic))
 | succ v =>
  have e1:vN (L++[n])=(vN L).take (v+1)++[xA (ic n)]:=by
   have:=xI (L.map ic) (ic n);rw [List.length_map,hv] at this;rw [<- this];show vA ((L++[n]).map ic)=_;rw [List.map_append];rfl
  have g5:=Ss (A:=L.map ic) (v:=v+1) (ty:=3) (m:=8) (c:=ic n) (k:=v+1) (by simpa using hv) (show 0<1 by decide) rfl rfl hm hm';have g8:jB ((vN L).take (v+1)++[xA (ic n)])=[]:=by rw [<- e1];exact QC ((L++[n]).map ic)
  have h:Lp 220 1 1 (st (IN (v+1+1) (v+1+1) n (v+1)) [(0,.raw mv mo),(1,.raw iv io),(2,.arr (v+1+1) 1 3 ((vN L).take (v+1)++[xA (ic n)]))] 3 []) (.exit 2) (st (IN (v+1+1) (v+1+1) n A.length) (WL mv mo iv io (v+1+1) (A++y::B)) 3 []):=by rw [<- e1];exact h
  exact Bf [(13,.w ⟨.pv (num (v+1)),none,false⟩),(17,.ok),(100007,.l JN (.exit 2) (st (IN (v+1+1) (v+1+1) n A.length) (WL mv mo iv io (v+1+1) (A++y::B)) 3 [])),(42,.w ⟨.eloc 2 (v+1+1) A.length 0,none,false⟩),(99999,.w ⟨.undef,some (2,.arr (v+1+1) 1 3 (vN (A++n::B))),false⟩)] ⟨[3,7],[0,1,2],3,[]⟩ (Rs (v:=v+1) (len:=v+1)) g5 g8 h g6 g7 (QC ((A++n::B).map ic))
end
end Go.Proofs.YtnkoaepelgbhfaaGreatDoor
namespace Go.Proofs.YtnkoaepelgbhfaaGreatDoor
open Go.Lg
set_option maxRecDepth 100000
section
variable {f bs:Nat} {c:Code} {s s':IS} {e:AE}
theorem Cf (tp:Di) (ko:Kp) (q:(e=e/\s'=s')=HK ev Tryz.prog 6 100 (fnc f).ntmps bs c s tp ko e s':=by kernel_rfl):Rc bs f c s e s':=Reach.of_go WC (q ▸ (⟨rfl,rfl⟩:e=e/\s'=s'))
end
theorem Df:∀ {L S:List Nat},JC L->JC S->(∀ x,x∈L↔x∈S)->L=S
 | [],[],_,_,_=>rfl
 | [],y::S,_,_,h=>absurd ((h y).2 (List.mem_cons_self ..)) (by simp)
 | x::L,[],_,_,h=>absurd ((h x).1 (List.mem_cons_self ..)) (by simp)
 | x::L,y::S,h1,h2,h=>by
  obtain⟨a1,b1⟩:=List.pairwise_cons.1 h1;obtain⟨a2,b2⟩:=List.pairwise_cons.1 h2;have e:x=y:=by
   rcases List.mem_cons.1 ((h x).1 (List.mem_cons_self ..)) with e|hx
   ·exact e
   rcases List.mem_cons.1 ((h y).2 (List.mem_cons_self ..)) with e|hy
   ·exact e.symm
   have:=a1 y hy;have:=a2 x hx;omega
  subst e;rw [Df b1 b2 λ z=>⟨λ hz=>(List.mem_cons.1 ((h z).1 (List.mem_cons_of_mem _ hz))).resolve_left (λ e=>by have:=a1 z hz;omega),λ hz=>(List.mem_cons.1 ((h z).2 (List.mem_cons_of_mem _ hz))).resolve_left (λ e=>by have:=a2 z hz;omega)⟩]
theorem JX:∀ {S L:List Nat},JC L->JC S->(∀ x∈L,x∈S)->L.length<=S.length
 | S,[],_,_,_=>Nat.zero_le _
 | [],x::L,_,_,h=>absurd (h x (List.mem_cons_self ..)) (by simp)
 | y::S,x::L,h1,h2,h=>by
  obtain⟨a1,b1⟩:=List.pairwise_cons.1 h1;obtain⟨a2,b2⟩:=List.pairwise_cons.1 h2;by_cases e:x=y
  ·subst e;exact Nat.succ_le_succ (JX b1 b2 λ z hz=>(List.mem_cons.1 (h z (List.mem_cons_of_mem _ hz))).resolve_left (λ e=>by have:=a1 z hz;omega))
  ·have hx:x∈S:=(List.mem_cons.1 (h x (List.mem_cons_self ..))).resolve_left e;have:=a2 x hx;have:=JX (S:=S) h1 b2 λ z hz=>(List.mem_cons.1 (h z hz)).resolve_left (λ e=>by
    rcases List.mem_cons.1 hz with rfl|hz
    ·omega
    ·have:=a1 z hz;omega)
   exact Nat.le_succ_of_le this
theorem Us {A B:List Nat} {n:Nat} (h:JC (A++B)) (hn:n ∉ A++B) (h1:∀ x∈B,n<x) (h2:∀ h:A≠[],A.getLast h<=n):JC (A++n::B):=by
 obtain⟨a,b,c⟩:=List.pairwise_append.1 h;have ha:∀ x∈A,x<n:=by
  intro x hx;have hne:A≠[]:=λ e=>by subst e;cases hx
  have hl:=h2 hne;have hx':x<=A.getLast hne:=by
   have e:=List.dropLast_concat_getLast hne;rw [<- e] at hx a;rcases List.mem_append.1 hx with hx|hx
   ·exact Nat.le_of_lt ((List.pairwise_append.1 a).2.2 x hx _ (by simp))
   ·simp at hx;omega
  have:x≠n:=λ e=>hn (List.mem_append_left _ (e ▸ hx))
  omega
 refine List.pairwise_append.2 ⟨a,List.pairwise_cons.2 ⟨h1,b⟩,λ x hx y hy => ?_⟩;rcases List.mem_cons.1 hy with rfl|hy
 ·exact ha x hx
 ·exact c x hx y hy
abbrev km (b:Nat):Value:=.map (some b)
abbrev QI (rb:Nat):Value:=.pointer (some ⟨rb,0,none⟩)
abbrev oi (b ck:Nat) (seen:Array Nat):Obj:=.mapIter (some b) ck seen ck
section
variable {X:PA} {b rb ck:Nat} {ms:Array MapEntry} {S:List Nat}
theorem Vs {mv iv:Value} {mo io:Obj} (v:Nat) (L:List Nat) :
  Rc 1 220 (.seq EX (.block 1 (.seq FX GX))) ⟨((hs mv iv mo io v L).sl.put 8 (some .undef)).put 9 (some (.pv (.bool false))),(hs mv iv mo io v L).ob,(hs mv iv mo io v L).nx,(hs mv iv mo io v L).dt⟩ (.exit 0) (YL mv mo v L):=by
 cases v with
 | zero=>exact Cf [] ⟨[3],[0],3,[]⟩
 | succ v=>exact XL [] ⟨[3],[0,2],3,[]⟩ (QC (L.map ic))
theorem Ws {mv iv:Value} {mo io io':Obj} (v:Nat) (L:List Nat) :
  Rc 1 220 EX ⟨((hs mv iv mo io v L).sl.put 8 (some .undef)).put 9 (some (.pv (.bool true))),(hs mv iv mo io v L).ob.put 1 (some (.raw iv io')),(hs mv iv mo io v L).nx,(hs mv iv mo io v L).dt⟩ .normal (hs mv iv mo io' v L):=by
 cases v with
 | zero=>exact Cf [] ⟨[3,7],[0,1],2,[]⟩
 | succ v=>exact XL [] ⟨[3,7],[0,1,2],3,[]⟩ (QC (L.map ic))
theorem Xs (hX:HX X ev Tryz.prog (fnc 220).ntmps 1) {mv iv:Value} {mo io:Obj} (v:Nat) (L:List Nat) (n:Nat) {σ:St} (h:Rel (hs mv iv mo io v L) σ) :
  ∃ τ,uL X ⟨(4,.pv (num n))::(11,.pv (num n))::(10,.undef)::σ.slots,σ.objs,σ.used⟩ τ/\Rel (qs mv iv mo io n v L) τ:=by
 have h3:=((h.slotT 10 .undef).slotT 11 (.pv (num n))).slotT 4 (.pv (num n))
 cases v with
 | zero=>exact h3.keep hX ⟨[3,4,7],[0,1],2,[]⟩ (by kernel_rfl) True.intro (by kernel_rfl)
 | succ v=>exact h3.keep hX ⟨[3,4,7],[0,1,2],3,[]⟩ (by kernel_rfl) ⟨QC (L.map ic),True.intro⟩ (by kernel_rfl)
theorem Ef {mv iv:Value} {mo io:Obj} (v:Nat) (L:List Nat) {σ:St} (h:Rel (hs mv iv mo io v L) σ):IA σ.slots 7 = .loc 1 0/\jA σ.objs 0=some (.raw mv mo)/\jA σ.objs 1=some (.raw iv io):=by
 have h1:=h.sl 7;have h2:=h.ob 0;have h3:=h.ob 1;cases v<;>exact⟨h1,h2,h3⟩
structure KX (ms:Array MapEntry) (seen:Array Nat) (L:List Nat):Prop where
 asc:JC L
 mem:∀ x:Nat,x∈L ↔ ∃ e∈ms.toList,e.key = .int .i64 (.ofNat x)/\seen.contains e.born=true
structure LN (ms:Array MapEntry) (ck:Nat) (S:List Nat):Prop where
 hold:∀ x∈ms.toList,x.born<ck
 nd:(ms.toList.map (·.born)).Nodup
 kn:∀ e∈ms.toList,∃ z:Nat,e.key = .int .i64 (.ofNat z)
 inj:∀ e∈ms.toList,∀ e'∈ms.toList,e.key=e'.key->e=e'
 asc:JC S
 mem:∀ x:Nat,x∈S ↔ ∃ e∈ms.toList,e.key = .int .i64 (.ofNat x)
 len:S.length<=8589934592
theorem Ff:∀ {l:List MapEntry},(l.map (·.born)).Nodup->∀ {e e':MapEntry},e∈l->e'∈l->e.born=e'.born->e=e'
 | x::l,h,e,e',he,he',hb=>by
  obtain⟨h1,h2⟩:=List.nodup_cons.1 h;rcases List.mem_cons.1 he with k1|k1<;>rcases List.mem_cons.1 he' with k2|k2
  ·rw [k1,k2]
  ·exact absurd (List.mem_map.2 ⟨e',k2,by rw [<- hb,k1]⟩) h1
  ·exact absurd (List.mem_map.2 ⟨e,k1,by rw [hb,k2]⟩) h1
  ·exact Ff h2 k1 k2 hb
theorem Gf (hX:HX X ev Tryz.prog (fnc 220).ntmps 1) (hM:LN ms ck S) (seen:Array Nat) (v:Nat) (L:List Nat) (σ:St) (hW:KX ms seen L) (hv:L.length=v) (hR:Rel (hs (km b) (QI rb) (.map ms ck) (oi b ck seen) v L) σ) (Q:AB->St->Prop)
  (q1:∀ σ',bL (.exit 0) (YL (km b) (.map ms ck) S.length S) (.exit 0) σ'->Q (.exit 0) σ')
  (q2:∀ seen' L' σ',(leftOf ms seen').size<(leftOf ms seen).size->KX ms seen' L'->L'.length=v+1->Rel (hs (km b) (QI rb) (.map ms ck) (oi b ck seen') (v+1) L') σ'->Q .normal σ'):AWP X PI σ Q:=by
 have hnt:X.nt=44:=by rw [hX.nt];exact IX
 have hsub:∀ x∈L,x∈S:=λ x hx=>by
  obtain⟨e,he,h1,_⟩:=(hW.mem x).1 hx;exact (hM.mem x).2 ⟨e,he,h1⟩
 obtain⟨g1,g2,g3⟩:=Ef v L hR;rw [Hs];refine AWP.seq ?_;obtain⟨i,t1,t2,p1,p2,f1,f2,hn⟩:=Js;rw [hn];refine AWP.next (n:=0) (r:=1) (by decide) g1 g2 g3 hM.hold (Nat.le_refl _) (by rw [hnt];decide) (by rw [hnt];decide) ?_ ?_
 ·intro h0;have e:L=S:=Df hW.asc hM.asc λ x=>⟨λ hx=>hsub x hx,λ hx=>by
   obtain⟨e,he,h1⟩:=(hM.mem x).1 hx;exact (hW.mem x).2 ⟨e,he,h1,all_seen ms seen h0 e he⟩⟩
  have hR1:=(hR.slotT 8 .undef).slotT 9 (.pv (.bool false));refine AWP.mono ((Vs v L).awp X hX _ hR1) ?_
  rintro ae σ' ⟨rfl,h⟩
  rw [hv.symm,e] at h;exact q1 σ' ⟨rfl,h⟩
 ·intro e he;obtain⟨hem,hes⟩:=mem_left he;obtain⟨n,hz⟩:=hM.kn e hem;have hR1:=((hR.slotT 8 .undef).slotT 9 (.pv (.bool true))).objT 1 (.raw (QI rb) (oi b ck (seen.push e.born)));refine AWP.seq (AWP.mono ((Ws v L).awp X hX _ hR1) ?_)
  rintro ae σ' ⟨rfl,hR2⟩
  refine AWP.block (AWP.seq ?_);obtain⟨g1,g2,g3⟩:=Ef v L hR2;obtain⟨i,t1,t2,t3,p1,p2,p3,f1,f2,f3,hn⟩:=Ks;rw [hn];refine AWP.entry g1 g2 g3 hem hM.nd hz (by rw [hnt];decide) (by rw [hnt];decide) (by rw [hnt];decide) ?_;obtain⟨τ,hw,hR3⟩:=Xs hX v L n hR2;have hnL:n ∉ L:=λ hn=>by
   obtain⟨e',he',h1,h2⟩:=(hW.mem n).1 hn;rw [hM.inj e hem e' he' (hz.trans h1.symm),h2] at hes;cases hes
  have hlt:=JX hW.asc hM.asc hsub;have hSl:=hM.len;obtain⟨A,B,e1,h2,h3,hr⟩:=Ts (mv:=km b) (iv:=QI rb) (mo:=.map ms ck) (io:=oi b ck (seen.push e.born)) n v L hv (by simp only [bA];omega) (by simp only [maxLen];omega) (by omega);refine AWP.wkX hw (AWP.mono (hr.awp X hX τ hR3) ?_)
  rintro ae σ3 ⟨rfl,hR4⟩
  refine q2 (seen.push e.born) (A++n::B) σ3 (left_shrinks ms seen e he) ⟨Us (e1 ▸ hW.asc) (e1 ▸ hnL) h2 h3,λ x => ?_⟩ (by have:=congrArg List.length e1;simp at this ⊢;omega) hR4;have hx:x∈A++n::B↔x=n\/x∈L:=by rw [<- e1];simp;constructor<;>(rintro (h|h|h)<;>simp [h])
  rw [hx,hW.mem];constructor
  ·rintro (rfl|⟨e',he',h1,h2⟩)
   ·exact⟨e,hem,hz,by simp⟩
   ·exact⟨e',he',h1,by simp at h2 ⊢;exact .inl h2⟩
  ·rintro⟨e',he',h1,h2⟩
   by_cases hq:seen.contains e'.born=true
   ·exact .inr ⟨e',he',h1,hq⟩
   ·have hb:e'.born=e.born:=by simp at h2 hq;exact h2.resolve_left hq
    have:=Ff hM.nd he' hem hb;subst this;rw [hz] at h1;left;simp at h1;omega
theorem Hf (hX:HX X ev Tryz.prog (fnc 220).ntmps 1) (hM:LN ms ck S):∀ (k:Nat) (seen:Array Nat) (v:Nat) (L:List Nat) (σ:St),(leftOf ms seen).size<=k->KX ms seen L->L.length=v ->
   Rel (hs (km b) (QI rb) (.map ms ck) (oi b ck seen) v L) σ->sH X PI (bL (.exit 0) (YL (km b) (.map ms ck) S.length S)) (k+1) σ
 | 0,seen,v,L,σ,hk,hW,hv,hR=>bO (Gf hX hM seen v L σ hW hv hR _ (λ _ h=>h) (λ _ _ _ h=>by omega))
 | k+1,seen,v,L,σ,hk,hW,hv,hR=>bO (Gf hX hM seen v L σ hW hv hR _ (λ _ h=>h) (λ seen' L' σ' h hW' hv' hR'=>Hf hX hM k seen' (v+1) L' σ' (by omega) hW' hv' hR'))
end
end Go.Proofs.YtnkoaepelgbhfaaGreatDoor
namespace Go.Lg
theorem Ys {ev:wB} {P:Program} {f m nx:Nat} {args:List V} {objs:List (Nat × Ob)} {ks:List Nat} {y:V} {ro o1:List (Nat × Ob)} (hd:VG (eC objs)=true) (hk:kL (eC objs) ks=true)
  (hC:Called P ev.gl ⟨.nil,QB objs .nil,m,[]⟩ f args ⟨y,[],[],nx⟩ ks ro o1):AC P ev.gl f args objs (.ret y) objs:=by
 have hd:=dL hd;rw [pF] at hd;have hk:=OO hk;rw [pF] at hk;have hs0:∀ k,(QB objs .nil).get k=jA objs k:=λ k=>by
  rw [aR objs _ hd];cases jA objs k<;>rfl
 have h1:o1=[]:=by
  cases o1 with
  | nil=>rfl
  | cons p r=>have:=hC.inch p.1 (keysO_mem.2 ⟨p.2,List.mem_cons_self ..⟩);cases this
 subst h1;have hsub:∀ p∈ro,jA objs p.1=some p.2:=λ p hp=>by rw [<- hs0];exact hC.subs p (by simpa using hp)
 have hget:∀ k,jA ro k=jA objs k:=by
  intro k
  cases e:jA ro k with
  | some o=>exact (hsub (k,o) (pJ e)).symm
  | none =>
   cases e2:jA objs k with
   | none=>rfl
   | some o =>
    have h1:=hC.all k (hk k (getO_iff.2 (by rw [e2];rfl)));rw [List.append_nil,getO_iff,e] at h1;cases h1
 have hac:AC P ev.gl f args ro (.ret y) ro:=by simpa using hC.ac
 refine AC.cong hac hget hget λ k hk => ?_
 obtain⟨p,hp,hkp⟩:=mem_mentO.1 hk;exact mem_mentO.2 ⟨p,pJ (hsub p hp),hkp⟩
end Go.Lg
namespace Go.Proofs.YtnkoaepelgbhfaaGreatDoor
open Go.Lg
set_option maxRecDepth 100000
def se (U:List Nat):List (SK × V):=U.map λ n=>(.int (.ofNat n),.pv (.bool true))
theorem UC:∀ U:List Nat,bC (se U)=[]
 | []=>rfl
 | n::U=>by show ([]:List Nat)++bC (se U)=[];rw [UC U];rfl
theorem If {E E':Env} : ∀ {U:List Nat} {ms:List MapEntry},EntsS E false (se U) ms->EntsS E' false (se U) ms
 | [],[],_=>True.intro
 | n::U,e::ms,h=>⟨⟨h.1.1,h.1.2.1,h.1.2.2.1,h.1.2.2.2⟩,If h.2⟩
 | [],_::_,h=>h.elim
 | _::_,[],h=>h.elim
theorem Jf {E:Env} : ∀ {U:List Nat} {ms:List MapEntry},EntsS E false (se U) ms->ms.map (·.key)=U.map λ n => .int .i64 (.ofNat n)
 | [],[],_=>rfl
 | n::U,e::ms,h=>by
  show e.key::ms.map (·.key)=_::U.map _;rw [Jf h.2,h.1.1];rfl
 | [],_::_,h=>h.elim
 | _::_,[],h=>h.elim
theorem Kf:∀ {l:List MapEntry},(l.map (·.key)).Nodup->∀ {e e':MapEntry},e∈l->e'∈l->e.key=e'.key->e=e'
 | x::l,h,e,e',he,he',hb=>by
  obtain⟨h1,h2⟩:=List.nodup_cons.1 h;rcases List.mem_cons.1 he with k1|k1<;>rcases List.mem_cons.1 he' with k2|k2
  ·rw [k1,k2]
  ·exact absurd (List.mem_map.2 ⟨e',k2,by rw [<- hb,k1]⟩) h1
  ·exact absurd (List.mem_map.2 ⟨e,k1,by rw [hb,k2]⟩) h1
  ·exact Kf h2 k1 k2 hb
theorem Zs {U:List Nat} (h:U.Nodup):(U.map λ n=>Value.int .i64 (.ofNat n)).Nodup:=by
 refine List.Pairwise.map _ (λ a b hab e=>hab ?_) h;have:Int.ofNat a=Int.ofNat b:=(Value.int.injEq .. ▸ e).2;exact Int.ofNat.inj this
structure MN (U S:List Nat):Prop where
 nd:U.Nodup
 asc:JC S
 mem:∀ x:Nat,x∈S↔x∈U
 len:S.length<=8589934592
theorem jt {E:Env} {U S:List Nat} {ms:Array MapEntry} {ck:Nat} (h:MN U S) (he:EntsS E false (se U) ms.toList) (hs:StampOK ms.toList ck):LN ms ck S:=by
 have hk:=Jf he;have hmem:∀ v,(∃ e∈ms.toList,e.key=v) ↔ ∃ n∈U,Value.int .i64 (.ofNat n)=v:=λ v=>by
  have:v∈ms.toList.map (·.key)↔v∈U.map λ n=>Value.int .i64 (.ofNat n):=by rw [hk]
  simpa only [List.mem_map] using this
 refine⟨hs.1,hs.2,λ e he => ?_,λ e he e' he' hkk=>Kf (hk ▸ Zs h.nd) he he' hkk,h.asc,λ x => ?_,h.len⟩
 ·obtain⟨n,_,e2⟩:=(hmem e.key).1 ⟨e,he,rfl⟩;exact⟨n,e2.symm⟩
 ·rw [h.mem,hmem];constructor
  ·exact λ hx=>⟨x,hx,rfl⟩
  ·rintro⟨n,hn,e⟩
   have:Int.ofNat n=Int.ofNat x:=(Value.int.injEq .. ▸ e).2;rwa [<- Int.ofNat.inj this]
section
variable {b rb ck:Nat} {ms:Array MapEntry} {S:List Nat}
theorem wt (hM:LN ms ck S):Lp 220 0 1 (hs (km b) (QI rb) (.map ms ck) (oi b ck #[]) 0 []) (.exit 0) (YL (km b) (.map ms ck) S.length S):=by
 refine⟨λ sub hI => ?_,(leftOf ms #[]).size+1,λ X hX σ hR=>Hf hX hM _ #[] 0 [] σ (Nat.le_refl _) ⟨List.Pairwise.nil,λ x=>⟨λ h=>(by cases h),λ ⟨e,_,_,h⟩=>(by simp at h)⟩⟩ rfl hR⟩;have h0:∀ n,n<1->n=0:=λ n h=>by omega
 have g0:∀ v,(YL (km b) (.map ms ck) v S).ob.get 0=some (.raw (km b) (.map ms ck)):=λ v=>by cases v<;>rfl
 have g1:∀ v,(YL (km b) (.map ms ck) v S).dt=[]/\(YL (km b) (.map ms ck) v S).nx=3:=λ v=>by cases v<;>exact⟨rfl,rfl⟩
 refine⟨by rw [(g1 _).2];omega,λ n hn _ => ?_,λ n hn _ => ?_,hI.names,λ n hn => ?_⟩
 ·rw [h0 n hn,g0];exact hI.same 0 (by omega) (by simp [hs])
 ·rw [h0 n hn];exact hI.old 0 (by omega) rfl
 ·rw [(g1 _).1] at hn;cases hn
def IK (o:Ob):List Nat->IS
 | []=>st [(3,.pv .nils)] [(0,o)] 3 []
 | x::S=>st [(3,.pv (dA (x::S)))] [(0,o)] 3 []
theorem yt (hM:LN ms ck S):Lp 220 0 1 (hs (km b) (QI rb) (.map ms ck) (oi b ck #[]) 0 []) (.exit 0) (IK (.raw (km b) (.map ms ck)) S):=by
 have h:=wt (b:=b) (rb:=rb) hM
 cases S with
 | nil=>exact h
 | cons x S =>
  have h2:=LoopIs.fz (by simp) (show Lp 220 0 1 _ (.exit 0) (st [(3,.arr 2 (S.length+1) (S.length+1))] [(0,.raw (km b) (.map ms ck)),(2,.arr (S.length+1) 1 3 (vA ((x::S).map ic)))] 3 []) from h) 2 (ver:=S.length+1) (sz:=1) (ty:=3) (ps:=(x::S).map ic) rfl (by kernel_rfl);have e:((x::S).map ic).take (S.length+1)=(x::S).map ic:=List.take_of_length_le (by simp);simp (decide:=true) only [rE,FD,cC,ZB,BC,tD,and_self,↓reduceIte,e] at h2;exact h2
abbrev GA (U:List Nat):Ob:=.smap false (se U)
abbrev LX (U:List Nat):IS:=st [(0,.map 0),(3,.pv .nils)] [(0,GA U)] 1 []
theorem bt:Tryz.prog.underlying 239=some (.map 3 4):=by kernel_rfl
noncomputable abbrev Mf:Code:=.seq (cs1 (cs1 (cs2 (cs2 EG)))) (.block 0 (.loop PI))
theorem ot {X:PA} (hX:HX X ev Tryz.prog (fnc 220).ntmps 1) (hM:LN ms ck S) {U:List Nat} {σ:St} (hR:Rel (LX U) σ) :
  AWP X Mf ⟨σ.slots,dB σ.objs 0 (.raw (km b) (.map ms ck)),σ.used⟩ (bL .normal (IK (.raw (km b) (.map ms ck)) S)):=by
 have hnt:X.nt=44:=by rw [hX.nt];exact IX
 have hR1:=hR.objT 0 (.raw (km b) (.map ms ck));refine AWP.seq ?_;obtain⟨i,t1,t2,p1,p2,f1,f2,hn⟩:=Ms;rw [hn];refine AWP.range (n:=0) (r:=1) (b:=b) (ck:=ck) (ms:=ms) (hR.sl 0) (hR1.ob 0) (λ h=>(by have:1<1:=hR.us 1 h;exact absurd this (by decide))) (by rw [hX.P];exact bt) (by rw [hnt];decide) (by rw [hnt];decide) ?_;intro rb;have hR2:=((hR1.slotT 6 (.map 0)).slotT 7 (.loc 1 0)).newT (.raw (QI rb) (oi b ck #[]));obtain⟨τ,hw,hR3⟩:=hR2.keep hX (s':=hs (km b) (QI rb) (.map ms ck) (oi b ck #[]) 0 []) ⟨[3,7],[0,1],2,[]⟩ (by kernel_rfl) (cast (show True=nF _ _ True by kernel_rfl) True.intro) (by kernel_rfl);refine AWP.wkX hw (AWP.block (AWP.mono ((yt hM).reach.awp X hX τ hR3) ?_))
 rintro ae σ' ⟨rfl,h⟩
 exact⟨rfl,h⟩
theorem At {U:List Nat} (hU:MN U S):Rc 1 220 Mf (LX U) .normal (IK (GA U) S):=by
 refine⟨λ sub hI => ?_,λ X hX σ hR C E a w hC hG => ?_⟩
 ·have h0:∀ n,n<1->n=0:=λ n h=>by omega
  have g0:(IK (GA U) S).ob.get 0=some (GA U):=by cases S<;>rfl
  have g1:(IK (GA U) S).dt=[]/\(IK (GA U) S).nx=3:=by cases S<;>exact⟨rfl,rfl⟩
  refine⟨by rw [g1.2];omega,λ n hn _ => ?_,λ n hn _ => ?_,hI.names,λ n hn => ?_⟩
  ·rw [h0 n hn,g0];exact hI.same 0 (by omega) (by simp)
  ·rw [h0 n hn];exact hI.old 0 (by omega) rfl
  ·rw [g1.1] at hn;cases hn
 ·have ho:jA σ.objs 0=some (GA U):=hR.ob 0;obtain⟨b,ms,ck,hg,hcell,hfree,hents,hst⟩:=hG.objs 0 _ ho;have hG1:=hG.swapO (o':=.raw (km b) (.map ms ck)) ho ⟨hg,b,rfl,hcell,hfree⟩ (by simp [Ob.names]);refine wp_mono (ot hX (jt hU hents hst) hR C E a w hC hG1) ?_
  rintro e a' w' ⟨E',σ',ae,hG',hrel,rfl,hR'⟩
  have ho':jA σ'.objs 0=some (.raw (km b) (.map ms ck)):=by rw [hR'.ob 0];cases S<;>rfl
  obtain⟨hg',b',hb',hcell',hfree'⟩:=hG'.objs 0 _ ho';cases hb';have hG2:=hG'.swapO (o':=GA U) ho' ⟨b,ms,ck,hg',hcell',hfree',If hents,hst⟩ (by simp [Ob.names,UC]);refine⟨E',_,.normal,hG2,hrel,rfl,?_⟩;have hR2:=hR'.objT 0 (GA U);cases S<;>exact⟨hR2.sl,λ n=>(hR2.ob n).trans (by simp only [IK,Tr.get_put];by_cases e:n=0<;>simp [e,QB,Tr.get_put];done),hR2.us⟩
end
end Go.Proofs.YtnkoaepelgbhfaaGreatDoor
namespace Go.Lg
end Go.Lg
namespace Go.Proofs.YtnkoaepelgbhfaaGreatDoor
open Go.Lg
set_option maxRecDepth 100000
theorem Nf (U:List Nat) (m:Nat) (hm:Nat.blt 0 m=true):reach m (QB [(0,GA U)] .nil) 1000000 [0] .nil []=some (Tr.nil.put 0 (some (GA U)),[0]):=by
 have e:reach m (QB [(0,GA U)] .nil) 1000000 [0] .nil []=bif Nat.blt 0 m then reach m (QB [(0,GA U)] .nil) 999999 (bC (se U)++[]) (Tr.nil.put 0 (some (GA U))) [0] else none:=by kernel_rfl
 rw [e,hm,UC];rfl
def GT:List Nat->PV
 | [] => .nils
 | x::S=>dA (x::S)
theorem Bt:∀ S:List Nat,PV.w 4 (GT S)=dA S
 | []=>rfl
 | _::_=>rfl
section
variable {U S:List Nat}
theorem p33_0:Rc 1 220 (cs1 EG) ⟨mF 0 [.map 0] .nil,Tr.nil.put 0 (some (GA U)),1,[]⟩ .normal (st [(0,.map 0)] [(0,GA U)] 1 []):=XL [] ⟨[0],[0],1,[]⟩ (UC U)
theorem p33_1:Rc 1 220 (cs1 (cs2 EG)) (st [(0,.map 0)] [(0,GA U)] 1 []) .normal (LX U):=XL [] ⟨[0,3],[0],1,[]⟩ (UC U)
theorem Ct:Rc 1 220 (cs2 (cs2 (cs2 EG))) (IK (GA U) S) .ret (st [(2,.pv (GT S))] [(0,GA U)] 3 []):=by
 cases S with
 | nil=>exact XL [] ⟨[2],[0],3,[]⟩ (UC U)
 | cons x S=>exact XL [] ⟨[2],[0],3,[]⟩ (UC U)
theorem Dt (hU:MN U S):Rc 1 220 EG ⟨mF 0 [.map 0] .nil,Tr.nil.put 0 (some (GA U)),1,[]⟩ .ret (st [(2,.pv (GT S))] [(0,GA U)] 3 []):=by
 rw [Ls];exact p33_0.seq (p33_1.seq ((At hU).seq Ct))
theorem Of (hU:MN U S):O 220 [.map 0] [(0,GA U)] (.pv (dA S)) [(0,GA U)]:=by
 obtain⟨ro,o1,hC⟩:=vR (s:=⟨.nil,QB [(0,GA U)] .nil,1,[]⟩) (KV (Dt hU)) WC (f:=220) (fn:=fnc 220) (c:=EG) (by kernel_rfl) (by kernel_rfl) (args:=[.map 0]) (by rw [IX];decide) (Nf U 1 rfl) (r:=⟨.pv (GT S),[],[],3⟩) (by
  unfold oM HM;simp only [and_self,if_true];cases S<;>kernel_rfl)
 have h:=Ys (objs:=[(0,GA U)]) (by kernel_rfl) (by kernel_rfl) hC;rw [<- Bt S];exact AC.wO 4 h
end
end Go.Proofs.YtnkoaepelgbhfaaGreatDoor
