/- Contracts of functions; no conditions. -/
import Derived.Test.YtnkoaepelgbhfaaGreatDoorPC10
import Derived.Test.YtnkoaepelgbhfaaGreatDoorPC9
set_option linter.all false
set_option maxHeartbeats 4000000
namespace Go.Proofs.YtnkoaepelgbhfaaGreatDoor
open Go.Lg
set_option maxRecDepth 100000
def xH:Bool->(Nat->Tm)->Nat->Tm
 | false,σ=>mA σ
 | true,σ=>mA (mA σ)
def Jt.sub:(Nat->Tm)->Jt->Jt
 | σ,.leaf u i f => .leaf u i (f.sub σ)
 | σ,.refl t => .refl (t.sub σ)
 | σ,.p1 k a f => .p1 k (a.sub σ) (f.sub σ)
 | σ,.p2 k a b f => .p2 k (a.sub σ) (b.sub (match k with
  | .andI=>σ
  | .impE=>σ
  | _=>mA σ)) (f.sub σ)
 | σ,.impI x a => .impI (x.sub σ) (a.sub σ)
 | σ,.all u s a => .all u s (a.sub (mA σ))
 | σ,.ins u t a f => .ins u (t.sub σ) (a.sub σ) (f.sub σ)
 | σ,.ex u x t a => .ex u (x.sub σ) (t.sub σ) (a.sub σ)
 | σ,.ind l x t a b f => .ind l (x.sub (mA σ)) (t.sub σ) (a.sub σ) (b.sub (xH l σ)) (f.sub σ)
 | σ,.subst x a b f => .subst (x.sub (mA σ)) (a.sub σ) (b.sub σ) (f.sub σ)
theorem EC:∀ (j:Jt) (σ:Nat->Tm),(j.sub σ).f=j.f.sub σ
 | .leaf _ _ _,_=>rfl
 | .refl _,_=>rfl
 | .p1 _ _ _,_=>rfl
 | .p2 _ _ _ _,_=>rfl
 | .impI x a,σ=>by show Fm.bin .imp (x.sub σ) (a.sub σ).f=_;rw [EC a];rfl
 | .all u s a,σ=>by show Fm.q (aq u) s (a.sub (mA σ)).f=_;rw [EC a];rfl
 | .ins _ _ _ _,_=>rfl
 | .ex _ _ _ _,_=>rfl
 | .ind _ _ _ _ _ _,_=>rfl
 | .subst _ _ _ _,_=>rfl
theorem eL:∀ (f:Fm) (σ:Nat->Tm),(f.sub σ).er=f.er
 | .eq a b,_=>rfl
 | .bin k f g,σ=>by simp only [Fm.sub,Fm.er,eL f,eL g]
 | .q k _ f,σ=>by simp only [Fm.sub,Fm.er,eL f]
theorem kG:∀ (f:Fm) (σ:Nat->Tm),(f.sub σ).has=f.has
 | .eq a b,_=>rfl
 | .bin k f g,σ=>by cases k<;>simp only [Fm.sub,Fm.has,kG f,kG g]
 | .q k _ f,σ=>by cases k<;>simp only [Fm.sub,Fm.has,kG f]
theorem yG:∀ (j:Jt) (σ:Nat->Tm),PX σ j.p (j.sub σ).p
 | .leaf _ _ _,_=>rfl
 | .refl t,σ=>⟨t.sub σ,rfl⟩
 | .p1 _ a _,σ=>⟨_,rfl,yG a σ⟩
 | .p2 k a b _,σ=>⟨_,_,rfl,yG a σ,by cases k<;>exact yG b _⟩
 | .impI x a,σ=>⟨_,_,rfl,eL x σ,yG a σ⟩
 | .all _ _ a,σ=>⟨_,rfl,yG a _⟩
 | .ins _ t a _,σ=>⟨_,_,rfl,λ _=>rfl,yG a σ⟩
 | .ex _ x t a,σ=>⟨_,_,_,rfl,eL x σ,λ _=>rfl,yG a σ⟩
 | .ind l x t a b _,σ=>⟨_,_,_,_,rfl,eL x _,rfl,yG a σ,by cases l<;>exact yG b _⟩
 | .subst x a b _,σ=>⟨_,_,_,rfl,eL x _,yG a σ,yG b σ⟩
theorem IE (σ:Nat->Tm) (i:Nat):mA σ (i+1)=(σ i).ren (· + 1):=HF _
theorem Bl (t:Tm) (w:Nat):(t.ren (· + 1)).occ (w+1)=t.occ w:=CJ t (· + 1) (w+1) w λ j=>by show j+1=w+1↔j=w;omega
theorem LJ {σ:Nat->Tm} {P:Nat->Prop} {w:Nat} (h:∃ v,P v/\(mA σ v).occ (w+1)≠0):∃ v,P (v+1)/\(σ v).occ w≠0:=by
 obtain⟨v,h1,h2⟩:=h
 cases v with
 | zero=>exact absurd (by simp [mA,Tm.occ]) h2
 | succ v=>rw [IE,Bl] at h2;exact⟨v,h1,h2⟩
theorem Jb {σ:Nat->Tm} {v:Nat} (h:(mA σ v).occ 0≠0):v=0:=by
 cases v with
 | zero=>rfl
 | succ v=>rw [IE] at h;exact absurd (zW λ j=>by omega) h
theorem uG:∀ (t:Tm) (σ:Nat->Tm) (w:Nat),(t.sub σ).occ w≠0->∃ v,t.occ v≠0/\(σ v).occ w≠0
 | .v i,σ,w,h=>⟨i,by simp [Tm.occ],h⟩
 | .lam s b,σ,w,h=>LJ (P:=λ v=>b.occ v≠0) (uG b (mA σ) (w+1) h)
 | .n0 _,_,_,h=>absurd rfl h
 | .n1 _ a,σ,w,h=>uG a σ w h
 | .n2 _ a b,σ,w,h=>by
  simp only [Tm.sub,Tm.occ] at h;by_cases e:(a.sub σ).occ w=0
  ·obtain⟨v,h1,h2⟩:=uG b σ w (by omega);exact⟨v,by simp only [Tm.occ];omega,h2⟩
  ·obtain⟨v,h1,h2⟩:=uG a σ w e;exact⟨v,by simp only [Tm.occ];omega,h2⟩
 | .n3 _ _ a b d,σ,w,h=>by
  simp only [Tm.sub,Tm.occ] at h;by_cases e:(a.sub σ).occ w=0
  ·by_cases e2:(b.sub σ).occ w=0
   ·obtain⟨v,h1,h2⟩:=uG d σ w (by omega);exact⟨v,by simp only [Tm.occ];omega,h2⟩
   ·obtain⟨v,h1,h2⟩:=uG b σ w e2;exact⟨v,by simp only [Tm.occ];omega,h2⟩
  ·obtain⟨v,h1,h2⟩:=uG a σ w e;exact⟨v,by simp only [Tm.occ];omega,h2⟩
theorem UR:∀ (f:Fm) (σ:Nat->Tm) (w:Nat),(f.sub σ).occ w≠0->∃ v,f.occ v≠0/\(σ v).occ w≠0
 | .eq a b,σ,w,h=>by
  simp only [Fm.sub,Fm.occ] at h;by_cases e:(a.sub σ).occ w=0
  ·obtain⟨v,h1,h2⟩:=uG b σ w (by omega);exact⟨v,by simp only [Fm.occ];omega,h2⟩
  ·obtain⟨v,h1,h2⟩:=uG a σ w e;exact⟨v,by simp only [Fm.occ];omega,h2⟩
 | .bin _ a b,σ,w,h=>by
  simp only [Fm.sub,Fm.occ] at h;by_cases e:(a.sub σ).occ w=0
  ·obtain⟨v,h1,h2⟩:=UR b σ w (by omega);exact⟨v,by simp only [Fm.occ];omega,h2⟩
  ·obtain⟨v,h1,h2⟩:=UR a σ w e;exact⟨v,by simp only [Fm.occ];omega,h2⟩
 | .q _ s b,σ,w,h=>LJ (P:=λ v=>b.occ v≠0) (UR b (mA σ) (w+1) h)
theorem sE:∀ (j:Jt) (σ:Nat->Tm) (w:Nat),(j.sub σ).us w->∃ v,j.us v/\(σ v).occ w≠0
 | .leaf _ _ _,_,_,h=>h.elim
 | .refl _,_,_,h=>h.elim
 | .p1 _ a f,σ,w,⟨h0,h⟩=>by
  obtain⟨v,h1,h2⟩:=sE a σ w h;exact⟨v,⟨by rw [<- kG f σ];exact h0,h1⟩,h2⟩
 | .p2 k a b f,σ,w,⟨h0,h⟩=>by
  have h0:f.has=true:=by rw [<- kG f σ];exact h0
  rcases h with h|h
  ·obtain⟨v,h1,h2⟩:=sE a σ w h;exact⟨v,⟨h0,.inl h1⟩,h2⟩
  ·cases k
   ·obtain⟨v,h1,h2⟩:=sE b σ w h;exact⟨v,⟨h0,.inr h1⟩,h2⟩
   ·obtain⟨v,h1,h2⟩:=sE b σ w h;exact⟨v,⟨h0,.inr h1⟩,h2⟩
   ·obtain⟨v,h1,h2⟩:=LJ (sE b (mA σ) (w+1) h);exact⟨v,⟨h0,.inr h1⟩,h2⟩
   ·obtain⟨v,h1,h2⟩:=LJ (sE b (mA σ) (w+1) h);exact⟨v,⟨h0,.inr h1⟩,h2⟩
 | .impI x a,σ,w,⟨h0,h⟩=>by
  obtain⟨v,h1,h2⟩:=sE a σ w h;refine⟨v,⟨?_,h1⟩,h2⟩;rw [EC] at h0;rw [<- kG (.bin .imp x a.f) σ];exact h0
 | .all u s a,σ,w,⟨h0,h⟩=>by
  obtain⟨v,h1,h2⟩:=LJ (sE a (mA σ) (w+1) h);refine⟨v,⟨?_,h1⟩,h2⟩;rw [EC] at h0;rw [<- kG (.q (aq u) s a.f) σ];exact h0
 | .ins u t a f,σ,w,⟨h0,h⟩=>by
  have h0:f.has=true:=by rw [<- kG f σ];exact h0
  rcases h with h|⟨hu,h⟩
  ·obtain⟨v,h1,h2⟩:=sE a σ w h;exact⟨v,⟨h0,.inl h1⟩,h2⟩
  ·obtain⟨v,h1,h2⟩:=uG t σ w h;exact⟨v,⟨h0,.inr ⟨hu,h1⟩⟩,h2⟩
 | .ex u x t a,σ,w,⟨h0,h⟩=>by
  have h0:x.has=true:=by rw [<- kG x σ];exact h0
  rcases h with h|⟨hu,h⟩
  ·obtain⟨v,h1,h2⟩:=sE a σ w h;exact⟨v,⟨h0,.inl h1⟩,h2⟩
  ·obtain⟨v,h1,h2⟩:=uG t σ w h;exact⟨v,⟨h0,.inr ⟨hu,h1⟩⟩,h2⟩
 | .ind l x t a b f,σ,w,⟨h0,h⟩=>by
  have h0:f.has=true:=by rw [<- kG f σ];exact h0
  rcases h with h|h|h
  ·obtain⟨v,h1,h2⟩:=uG t σ w h;exact⟨v,⟨h0,.inl h1⟩,h2⟩
  ·obtain⟨v,h1,h2⟩:=sE a σ w h;exact⟨v,⟨h0,.inr (.inl h1)⟩,h2⟩
  ·cases l
   ·obtain⟨v,h1,h2⟩:=LJ (sE b (mA σ) (w+1) h);exact⟨v,⟨h0,.inr (.inr h1)⟩,h2⟩
   ·obtain⟨v,h1,h2⟩:=LJ (P:=λ i=>b.us (i+1)) (LJ (sE b (mA (mA σ)) (w+2) h));exact⟨v,⟨h0,.inr (.inr h1)⟩,h2⟩
 | .subst x a b f,σ,w,⟨h0,h⟩=>by
  obtain⟨v,h1,h2⟩:=sE b σ w h;exact⟨v,⟨by rw [<- kG f σ];exact h0,h1⟩,h2⟩
theorem Kb {j:Jt} (σ:Nat->Tm) (h:¬j.us 0):¬(j.sub (mA σ)).us 0:=λ k=>by
 obtain⟨v,h1,h2⟩:=sE j (mA σ) 0 k;rw [Jb h2] at h1;exact h h1
def SNg (g g':List Ty) (σ:Nat->Tm):Prop:=∀ i s,cB g i = .ok s->(σ i).tyR g' = .ok s
theorem SNg.up {g g':List Ty} {σ:Nat->Tm} (h:SNg g g' σ) (u:Ty):SNg (g++[u]) (g'++[u]) (mA σ):=λ i s e=>by
 cases i with
 | zero=>rw [oR] at e;show cB _ 0=_;rw [oR];exact e
 | succ i=>rw [SO] at e;rw [IE];exact GJ _ _ _ _ _ (Ik g' u) (h i s e)
theorem SNg.upG {g g':List Ty} {σ:Nat->Tm} (h:SNg g g' σ) (l:Bool):SNg (g++lG l) (g'++lG l) (xH l σ):=by
 cases l
 ·exact h.up .nat
 ·have:=(h.up .nat).up .list;simpa [lG,xH] using this
theorem rF:∀ (t:Tm) (g g':List Ty) (σ:Nat->Tm) (s:Ty),SNg g g' σ->t.tyR g = .ok s->(t.sub σ).tyR g' = .ok s
 | .v i,g,g',σ,s,h,e=>h i s e
 | .lam u b,g,g',σ,s,h,e=>by
  simp only [Tm.tyR,Tm.sub] at e ⊢
  cases e1:b.tyR (g++[u]) with
  | er n=>rw [e1] at e;cases e
  | ok x=>rw [e1] at e;rw [rF b _ _ _ x (h.up u) e1];exact e
 | .n0 k,_,_,_,_,_,e=>e
 | .n1 k a,g,g',σ,s,h,e=>by
  simp only [Tm.tyR,Tm.sub] at e ⊢
  cases e1:a.tyR g with
  | er n=>rw [e1] at e;cases e
  | ok x=>rw [e1] at e;rw [rF a _ _ _ x h e1];exact e
 | .n2 k a b,g,g',σ,s,h,e=>by
  simp only [Tm.tyR,Tm.sub] at e ⊢
  cases e1:a.tyR g with
  | er n=>rw [e1] at e;cases e
  | ok x=>cases e2:b.tyR g with
   | er n=>rw [e1,e2] at e;cases e
   | ok y=>rw [e1,e2] at e;rw [rF a _ _ _ x h e1,rF b _ _ _ y h e2];exact e
 | .n3 k u a b c,g,g',σ,s,h,e=>by
  simp only [Tm.tyR,Tm.sub] at e ⊢
  cases e1:a.tyR g with
  | er n=>rw [e1] at e;cases e
  | ok x=>cases e2:b.tyR g with
   | er n=>rw [e1,e2] at e;cases e
   | ok y=>cases e3:c.tyR g with
    | er n=>rw [e1,e2,e3] at e;cases e
    | ok w=>rw [e1,e2,e3] at e;rw [rF a _ _ _ x h e1,rF b _ _ _ y h e2,rF c _ _ _ w h e3];exact e
theorem iL:∀ (f:Fm) (g g':List Ty) (σ:Nat->Tm),SNg g g' σ->f.ty g->(f.sub σ).tq g'
 | .eq a b,g,g',σ,h,⟨⟨_,h2⟩,_,h4⟩=>⟨rF a g g' σ _ h h2,rF b g g' σ _ h h4⟩
 | .bin _ f k,g,g',σ,h,⟨h1,h2⟩=>⟨iL f g g' σ h h1,iL k g g' σ h h2⟩
 | .q _ s f,g,g',σ,h,h1=>iL f _ _ _ (h.up s) h1
theorem oL:∀ (f:Fm) (σ τ:Nat->Tm),(f.sub σ).sub τ=f.sub λ i=>(σ i).sub τ
 | .eq a b,σ,τ=>by simp only [Fm.sub,CG]
 | .bin k f g,σ,τ=>by simp only [Fm.sub,oL f,oL g]
 | .q k s f,σ,τ=>by
  simp only [Fm.sub,oL f];congr 2;funext i
  cases i with
  | zero=>rfl
  | succ i=>exact pT _ _
theorem Lb (t s:Tm):(t.ren (· + 1)).sub (λ i=>(Tm.v i).put 0 s 0)=t:=by
 rw [IF];exact (vE _ _ Tm.v λ i _=>oH _ i).trans (kE _)
theorem Mb (f:Fm) (s:Tm) (σ:Nat->Tm):(f.put 0 s 0).sub σ=(f.sub (mA σ)).put 0 (s.sub σ) 0:=by
 rw [qG,oL,qG 0 (s.sub σ),oL];congr 1;funext i
 cases i with
 | zero=>rw [ZF];exact (ZF _).symm
 | succ i=>rw [oH,IE,Lb];rfl
theorem NM {c k:Nat} {σ τ:Nat->Tm} (h:∀ i,τ (TD c k i)=(σ i).ren (TD c k)) (f:Fm):(f.sh c (.ofNat k)).sub τ=(f.sub σ).sh c (.ofNat k):=by
 rw [tL,tL,xR,AR];congr 1;funext i;exact h i
theorem Cl (σ:Nat->Tm):∀ i,mA σ (TD 0 1 i)=(σ i).ren (TD 0 1):=λ i=>IE σ i
theorem Dl (σ:Nat->Tm):∀ i,mA (mA σ) (TD 0 2 i)=(σ i).ren (TD 0 2):=λ i=>by
 show mA (mA σ) (i+1+1)=_;rw [IE,IE,LD];rfl
theorem Nb (σ:Nat->Tm):∀ i,mA (mA σ) (TD 1 1 i)=(mA σ i).ren (TD 1 1)
 | 0=>rfl
 | i+1=>by
  show mA (mA σ) (i+1+1)=_;rw [IE,IE,LD,LD];congr 1
theorem El (σ:Nat->Tm):∀ i,mA (mA (mA σ)) (TD 1 2 i)=(mA σ i).ren (TD 1 2)
 | 0=>rfl
 | i+1=>by
  show mA (mA (mA σ)) (i+1+1+1)=_;rw [IE,IE,IE,LD,LD,LD];congr 1
theorem Fl (σ:Nat->Tm):∀ i,mA (mA (mA σ)) (TD 2 1 i)=(mA (mA σ) i).ren (TD 2 1)
 | 0=>rfl
 | 1=>rfl
 | i+2=>by
  show mA (mA (mA σ)) (i+1+1+1)=(mA (mA σ) (i+1+1)).ren _;simp only [IE,LD];congr 1
theorem Pb (hs:List Fm) (σ:Nat->Tm):(gA 1 hs).map (Fm.sub (mA σ))=gA 1 (hs.map (Fm.sub σ)):=by
 simp only [gA,List.map_map];exact List.map_congr_left λ f _=>NM (Cl σ) f
theorem Gl (hs:List Fm) (σ:Nat->Tm):(gA 2 hs).map (Fm.sub (mA (mA σ)))=gA 2 (hs.map (Fm.sub σ)):=by
 simp only [gA,List.map_map];exact List.map_congr_left λ f _=>NM (Dl σ) f
theorem vW (hs:List Fm) (x:Fm) (σ:Nat->Tm):(gA 1 hs++[x]).map (Fm.sub (mA σ))=gA 1 (hs.map (Fm.sub σ))++[x.sub (mA σ)]:=by
 rw [List.map_append,Pb];rfl
theorem Hl (hs:List Fm) (x:Fm) (l:Bool) (σ:Nat->Tm):(XM hs x l).map (Fm.sub (xH l σ))=XM (hs.map (Fm.sub σ)) (x.sub (mA σ)) l:=by
 cases l
 ·exact vW hs x σ
 ·show (gA 2 hs++[x.sh 1 (.ofNat 1)]).map (Fm.sub (mA (mA σ)))=_;rw [List.map_append,Gl,List.map_cons,List.map_nil,NM (Nb σ)];rfl
theorem Il (l:Bool) (σ:Nat->Tm):(l0 l).sub σ=l0 l:=by cases l<;>rfl
theorem Jl (l:Bool) (σ:Nat->Tm):(l1 l).sub (xH l σ)=l1 l:=by cases l<;>rfl
theorem Kl (l:Bool) (x:Fm) (σ:Nat->Tm):(x.sh 1 (.ofNat (lN l))).sub (mA (xH l σ))=(x.sub (mA σ)).sh 1 (.ofNat (lN l)):=by
 cases l
 ·exact NM (Nb σ) x
 ·exact NM (El σ) x
theorem Ll {f y:Fm} {t:Tm} (h:f.pt t = .ok y):y=f.put 0 t 0:=by
 unfold Fm.pt at h;split at h<;>cases h;rfl
theorem MJ {f y:Fm} {t:Tm} (σ:Nat->Tm) (h:f.pt t = .ok y):(f.sub (mA σ)).put 0 (t.sub σ) 0=y.sub σ:=by
 rw [Ll h,Mb]
theorem Ml {y:Fm} (σ:Nat->Tm) (h:y.occ 0=0):(y.sub (mA σ)).low=y.low.sub σ:=by
 show (y.sub (mA σ)).put 0 (.v 0) 0=(y.put 0 (.v 0) 0).sub σ;rw [Mb,qG 0 (Tm.sub σ (.v 0)),qG 0 (.v 0),oL,oL];refine TO y _ _ λ i hi => ?_
 cases i with
 | zero=>exact absurd h hi
 | succ i=>simp only [IE,Lb]
theorem Nl {f g:Fm} (h:IC f=some g):∃ y,FCv f y/\y.occ 0=0/\g=y.low:=by
 unfold IC at h;split at h
 ·rename_i e;cases h;exact⟨f,.refl f,e,rfl⟩
 ·split at h
  ·rename_i y e1;split at h
   ·rename_i e2;cases h;exact⟨y,WO f e1,e2,rfl⟩
   ·cases h
  ·cases h
theorem Qb {f g:Fm} (σ:Nat->Tm) (h:IC f=some g):∃ y,FCv (f.sub (mA σ)) y/\y.occ 0=0/\FCv (g.sub σ) y.low:=by
 obtain⟨y,h1,h2,rfl⟩:=Nl h;refine⟨y.sub (mA σ),h1.sub _,Decidable.byContradiction λ k => ?_,by rw [Ml σ h2];exact .refl _⟩;obtain⟨v,h3,h4⟩:=UR y (mA σ) 0 k;rw [Jb h4] at h3;exact h3 h2
theorem Sb {f:Fm} {k:FQ} {s:Ty} (e:f = .q k s f.bd) (σ:Nat->Tm):FCv (f.sub σ) (.q k s (f.bd.sub (mA σ))):=by
 have:=congrArg (Fm.sub σ) e;rw [this];exact .refl _
theorem WD:∀ (j:Jt) (g g':List Ty) (hs:List Fm) (σ:Nat->Tm),SNg g g' σ->j.D [] g hs->(j.sub σ).L [] g' (hs.map (Fm.sub σ))
 | .leaf u i f,g,g',hs,σ,hr,⟨h0,h⟩=>by
  cases u
  ·exact⟨by rw [List.length_map];exact h.1,f.sub σ,by rw [List.length_map,List.getElem?_map,h.2];rfl,.refl _⟩
  ·simp at h
 | .refl t,g,g',hs,σ,hr,⟨h0,h1,h2⟩=>rF t g g' σ _ hr h2
 | .p1 k a f,g,g',hs,σ,hr,⟨h0,h1,h2⟩=>⟨WD a g g' hs σ hr h1,by
  cases k
  ·obtain⟨y,e⟩:=h2;exact⟨y.sub σ,by rw [EC,e];exact .refl _⟩
  ·obtain⟨y,e⟩:=h2;exact⟨y.sub σ,by rw [EC,e];exact .refl _⟩
  ·obtain⟨s,u,x,e,hs,y,e1,e2⟩:=h2;refine⟨s,u,x.sub (mA (mA σ)),by rw [EC,e];exact .refl _,?_⟩;have:=MJ (mA (mA σ)) e1;rw [NM (Fl σ),show vapp.sub (mA (mA σ))=vapp from rfl] at this;rw [e2,this];exact .refl _⟩
 | .p2 k a b f,g,g',hs,σ,hr,⟨h0,h1,h2⟩=>by
  refine⟨WD a g g' hs σ hr h1,?_⟩;cases k
  ·obtain⟨h3,e⟩:=h2;exact⟨WD b g g' hs σ hr h3,by rw [EC,EC,e];exact .refl _⟩
  ·obtain⟨h3,x,e,h4⟩:=h2;exact⟨WD b g g' hs σ hr h3,x.sub σ,by rw [EC,e];exact .refl _,by rw [EC];exact (KJ h4).sub σ⟩
  ·obtain⟨⟨s,e,h3⟩,_,h4⟩:=h2;obtain⟨y,y1,y2,y3⟩:=Qb σ h4;refine⟨s,a.f.bd.sub (mA σ),y,by rw [EC];exact Sb e σ,?_,by rw [EC];exact y1,y2,y3⟩;have:=WD b _ _ _ (mA σ) (hr.up s) h3;rw [vW] at this;exact this
  ·obtain⟨⟨s,e,h3⟩,_,h4,h5⟩:=h2;obtain⟨y,y1,y2,y3⟩:=Qb σ h4;refine⟨⟨s,a.f.bd.sub (mA σ),y,by rw [EC];exact Sb e σ,?_,by rw [EC];exact y1,y2,y3⟩,Kb σ h5⟩;have:=WD b _ _ _ (mA σ) (hr.up s) h3;rw [vW] at this;exact this
 | .impI x a,g,g',hs,σ,hr,⟨h0,⟨h1,h2⟩,h3,h4⟩=>by
  refine⟨iL x g g' σ hr h2,?_⟩;have:=WD a g g' _ σ hr h4;rw [List.map_append] at this;exact this
 | .all u s a,g,g',hs,σ,hr,⟨h0,h1,h2,h3⟩=>by
  refine⟨?_,λ hu=>Kb σ (h3 hu)⟩;have:=WD a _ _ _ (mA σ) (hr.up s) h2;rw [Pb] at this;exact this
 | .ins u t a f,g,g',hs,σ,hr,⟨h0,h1,h2,s,x,e1,e2,e3⟩ =>
  ⟨WD a g g' hs σ hr h2,s,x.sub (mA σ),rF t g g' σ _ hr e1,by rw [EC,e2];exact .refl _,by rw [MJ σ e3];exact .refl _⟩
 | .ex u x t a,g,g',hs,σ,hr,⟨⟨h0,h1⟩,h2,h3,s,y,w,e1,e2,e3,e4⟩ =>
  ⟨iL x g g' σ hr h1,WD a g g' hs σ hr h3,s,y.sub (mA σ),rF t g g' σ _ hr e1,by rw [e2];rfl,by rw [MJ σ e3,EC];exact (KJ e4).sub σ⟩
 | .ind l x t a b f,g,g',hs,σ,hr,⟨h0,⟨h1,h2⟩,⟨h3,h4⟩,⟨h5,w,h6,h7⟩,⟨h8,h9⟩,⟨h10,w',h11,h12⟩,h13⟩=>by
  refine⟨iL x _ _ _ (hr.up (lT l)) h2,rF t g g' σ _ hr h4,⟨WD a g g' hs σ hr h5,?_⟩,⟨?_,?_⟩,by rw [MJ σ h13];exact .refl _⟩
  ·have:=MJ σ h6;rw [Il] at this;rw [this,EC];exact (KJ h7).sub σ
  ·have:=WD b _ _ _ (xH l σ) (hr.upG l) h10;rwa [Hl] at this
  ·have:=MJ (xH l σ) h11;rw [Jl,Kl] at this;rw [this,EC];exact (KJ h12).sub _
 | .subst x a b f,g,g',hs,σ,hr,⟨h0,⟨h1,h2⟩,h3,h4,t,u,w,e1,e2,e3,e4⟩ =>
  ⟨iL x _ _ _ (hr.up .nat) h2,WD a g g' hs σ hr h3,WD b g g' hs σ hr h4,t.sub σ,u.sub σ,by rw [EC,e1];exact .refl _,by rw [MJ σ e2,EC];exact (KJ e3).sub σ,by rw [MJ σ e4];exact .refl _⟩
theorem dG:∀ j:Jt,j.sub Tm.v=j
 | .leaf _ _ f=>by simp only [Jt.sub,wG]
 | .refl t=>by simp only [Jt.sub,kE]
 | .p1 _ a f=>by simp only [Jt.sub,wG,dG a]
 | .p2 k a b f=>by cases k<;>simp only [Jt.sub,wG,iN,dG a,dG b]
 | .impI x a=>by simp only [Jt.sub,wG,dG a]
 | .all _ _ a=>by simp only [Jt.sub,iN,dG a]
 | .ins _ t a f=>by simp only [Jt.sub,wG,kE,dG a]
 | .ex _ x t a=>by simp only [Jt.sub,wG,kE,dG a]
 | .ind l x t a b f=>by cases l<;>simp only [Jt.sub,xH,iN,wG,kE,dG a,dG b]
 | .subst x a b f=>by simp only [Jt.sub,iN,wG,dG a,dG b]
theorem Ol (g:List Ty) (hg:g.length<=16) (hgs:∀ s∈g,s.size<=64) (j:Jt) (hL:j.L [] g []) (hc:j.p.ck) (hp:j.p.cnt<=16384) :
  (∃ e,Lm (e+1)/\A 92 [fA [],ZA g [],j.p.p] (.tuple [.agg [num 0,num 0,.slice [],.slice [],.slice [],dA []],num (e+1)])) \/
  ∃ i:Jt,i.p=j.p/\i.OK [] g.length []/\FCv i.f j.f /\ ∃ L,A 92 [fA [],ZA g [],j.p.p] (.tuple [.agg [num i.f.kd,num i.f.tk,.slice i.f.te,.slice i.f.ts,.slice i.f.es,dA L],num 0]):=by
 have hpl:PlOK g []:=⟨hg,hgs,by simp,λ h hh=>nomatch hh⟩;have g1:=Vo g hg hgs;have g2:=ao j.p hp hc;have g3:=Ro g hg hgs;rcases DC (ls:=[]) (λ f h=>nomatch h) j g [] [] hpl .nil hL hc with ⟨y,z,e,he,g4⟩|⟨i,z,q⟩
 ·exact .inl ⟨e,he,f4 [(15,.N 0),(21,.N 0),(34,.r (XA g [])),(35,.o [3,4] [] (.pv (eA y z (e+1))))] g1 g2 g3 g4⟩
 ·obtain⟨L,g5⟩:=zp z q.bs.u;exact .inr ⟨i,q.p,q.ok,q.cv,L,f6 [(15,.N 0),(21,.N 0),(34,.r (XA g [])),(35,.o [3,4] [] (.pv (eA i.f.y z 0))),(44,.r i.f.p),(47,.r (dA L))] g1 g2 g3 q.run (Bn i.f q.fk.cn) g5⟩
theorem Pl (g:List Ty) (hg:g.length<=16) (hgs:∀ s∈g,s.size<=64) (j:Jt) (hL:j.L [] g []) (hc:j.p.ck) (hp:j.p.cnt<=16384) :
  (∃ e,Lm (e+1)/\A 45 [fA [],ZA g [],j.p.p] (.tuple [.nil,num (e+1)])) \/ ∃ i:Jt,i.p=j.p/\i.OK [] g.length []/\FCv i.f j.f/\A 45 [fA [],ZA g [],j.p.p] (.tuple [i.ptr [],num 0]):=by
 have hm:=zA;rcases Ol g hg hgs j hL hc hp with ⟨e,he,g1⟩|⟨i,hi,hO,hv,L,g1⟩
 ·exact .inl ⟨e,he,f1 [(14,.U [.agg [num 0,num 0,.slice [],.slice [],.slice [],dA []],num (e+1)])] g1⟩
 ·have g2:=JD (ls:=[]) i g.length [] (λ f h=>nomatch h) (by rw [hi];simp;omega) (by rw [hi];omega) hO;rw [<- hi] at g1 ⊢;exact .inr ⟨i,rfl,hO,hv,f2 [(14,.U [.agg [num i.f.kd,num i.f.tk,.slice i.f.te,.slice i.f.ts,.slice i.f.es,dA L],num 0]),(24,.r (i.ptr []))] g1 g2⟩
theorem Tb (g:List Ty) (hg:g.length<=16) (hgs:∀ s∈g,s.size<=64) (j:Jt) (hL:j.L [] g []) (hc:j.p.ck) (hp:j.p.cnt<=16384) :
  ∃ r:XR,A 11 [fA [],row [],ZA g [],j.p.p] r.p/\((∃ e,Lm (e+1)/\r = .er .z e)\/j.f.has=false/\r = .er .z 39\/j.f.has=true /\ ∃ i:Jt,i.p=j.p/\i.OK [] g.length []/\i.f.has=true/\r.Gd g.length (i.xt [] (wC g.length 0))):=by
 have hm:=zA;rcases Pl g hg hgs j hL hc hp with ⟨e,he,g1⟩|⟨i,hi,hO,hv,g1⟩
 ·exact⟨.er .z e,f1 [(17,.U [.nil,num (e+1)])] g1,.inl ⟨e,he,rfl⟩⟩
 ·have eh:=hv.has;cases hf:i.f.has
  ·exact⟨.er .z 39,f3 [(17,.U [i.ptr [],num 0]),(26,.N 0),(34,.H)] g1 Ie hf,.inr (.inl ⟨eh.symm.trans hf,rfl⟩)⟩
  ·obtain⟨r,g4,q⟩:=WB (ls:=[]) (tl:=[]) (λ i f h=>by simp at h) i g.length [] (wC g.length 0) hO hf (cT g.length 0) (by rw [hi];omega) (by rw [hi];simp;omega) (by rw [hi];show g.length+0+_<=_;omega) (by rw [hi];show 0+_<=_;omega);have g5:A 46 [row [],i.ptr [],(wC g.length 0).p] r.p:=f1 [(12,.r r.p)] g4;exact⟨r,f5 [(17,.U [i.ptr [],num 0]),(26,.N 0),(34,.G),(40,.r (wC g.length 0).p),(41,.r r.p)] g1 Ie hf (Fe g hg) g5,.inr (.inr ⟨eh.symm.trans hf,i,hi,hO,hf,q⟩)⟩
theorem Ql {t:Tm} {n:Nat} (h:t.sc n):t.ps (wC n 0).vs n 0=t:=by
 rw [DE,vE t _ Tm.v λ i hi=>sb (RP h hi),kE]
theorem Rl {i j:Jt} {n n':Nat} {σ:Nat->Tm} (hO:i.OK [] n []) (hO':j.OK [] n' []) (hP:PX σ i.p j.p) (h:∀ v,v<n->(σ v).sc n') (hf:i.f.has=true):j.xt [] (wC n' 0)=(i.xt [] (wC n 0)).sub σ:=by
 refine sC (ls:=[]) (tl:=[]) (λ i t h=>by simp at h) i j n n' [] [] σ _ (wC n 0) (wC n' 0) hO hO' rfl hP (cT n 0) (cT n' 0) ⟨λ v _ hl => ?_,rfl,λ i hi=>absurd hi (Nat.not_lt_zero i)⟩ hf;have hl:v<n:=by
  have:v<(qD (n+0) 0 n).length:=hl;rwa [AN] at this
 refine⟨?_,?_⟩
 ·show (σ v).sc (qD (n'+0) 0 n').length;rw [AN];exact h v hl
 ·show (σ v).ps (wC n' 0).vs n' 0=((Tm.v v).ps (wC n 0).vs n 0).sub _;rw [sb hl,Ql (h v hl)];rfl
theorem Sl {j:Jt} {g:List Ty} (hD:j.D [] g []):j.L [] g []:=by
 have:=WD j g g [] Tm.v (λ i s e=>e) hD;rwa [dG] at this
open Go.Lg
def Pf.pu (S:Tm):Nat->Pf->Pf
 | _,.leaf u i => .leaf u i
 | d,.refl t => .refl (t.put 0 S d)
 | d,.p1 q a => .p1 q (a.pu S d)
 | d,.p2 q a b => .p2 q (a.pu S d) (b.pu S (match q with
  | .andI=>d
  | .impE=>d
  | _=>d+1))
 | d,.impI x a => .impI (x.put 0 S d) (a.pu S d)
 | d,.all u s a => .all u s (a.pu S (d+1))
 | d,.ins u t a => .ins u (t.put 0 S d) (a.pu S d)
 | d,.ex u x t a => .ex u (x.put 0 S d) (t.put 0 S d) (a.pu S d)
 | d,.ind l x t a b => .ind l (x.put 0 S (d+1)) (t.put 0 S d) (a.pu S d) (b.pu S (d+lN l))
 | d,.subst x a b => .subst (x.put 0 S (d+1)) (a.pu S d) (b.pu S d)
def AH (S:Tm) (d:Nat):Nat->Tm:=λ i=>(Tm.v i).put 0 S d
theorem VR (S:Tm) (d:Nat):mA (AH S d)=AH S (d+1):=pb 0 S d
theorem qP (S:Tm) (t:Tm) (d:Nat):t.sub (AH S d)=t.put 0 S d:=(yE 0 S t d).symm
theorem WR (S:Tm) (f:Fm) (d:Nat):f.sub (AH S d)=f.put 0 S d:=(qG 0 S f d).symm
theorem fG (S:Tm):∀ (j:Jt) (d:Nat),(j.sub (AH S d)).p=j.p.pu S d
 | .leaf _ _ _,_=>rfl
 | .refl t,d=>by simp only [Jt.sub,Jt.p,Pf.pu,qP]
 | .p1 _ a _,d=>by simp only [Jt.sub,Jt.p,Pf.pu,fG S a]
 | .p2 q a b _,d=>by cases q<;>simp only [Jt.sub,Jt.p,Pf.pu,VR,fG S a,fG S b]
 | .impI x a,d=>by simp only [Jt.sub,Jt.p,Pf.pu,WR,fG S a]
 | .all _ _ a,d=>by simp only [Jt.sub,Jt.p,Pf.pu,VR,fG S a]
 | .ins _ t a _,d=>by simp only [Jt.sub,Jt.p,Pf.pu,qP,fG S a]
 | .ex _ x t a,d=>by simp only [Jt.sub,Jt.p,Pf.pu,WR,qP,fG S a]
 | .ind l x t a b _,d=>by cases l<;>simp only [Jt.sub,Jt.p,Pf.pu,xH,VR,WR,qP,fG S a,fG S b,lN]
 | .subst x a b _,d=>by simp only [Jt.sub,Jt.p,Pf.pu,VR,WR,fG S a,fG S b]
theorem YR {S:Tm} (hS:S.cnt<=4096) (t:Tm) (d:Nat):(t.put 0 S d).cnt<=t.cnt * 4097:=by
 have h1:=AF 0 S t d;have h2:=Nat.mul_le_mul (yB t (0+d)) hS;omega
theorem ZR {S:Tm} (hS:S.cnt<=4096) (f:Fm) (d:Nat):(f.put 0 S d).cnt<=f.cnt * 4097:=by
 have h1:=aI 0 S f d;have h2:=Nat.mul_le_mul (YC f (0+d)) hS;omega
theorem tF {S:Tm} (hS:S.cnt<=4096):∀ (p:Pf) (d:Nat),(p.pu S d).cnt<=p.cnt * 4097
 | .leaf _ _,_=>by simp only [Pf.pu,Pf.cnt];omega
 | .refl t,d=>by have:=YR hS t d;simp only [Pf.pu,Pf.cnt];omega
 | .p1 _ a,d=>by have:=tF hS a d;simp only [Pf.pu,Pf.cnt];omega
 | .p2 _ a b,d=>by
  have:=tF hS a d;simp only [Pf.pu,Pf.cnt];split<;>(have:=tF hS b d;have:=tF hS b (d+1);omega)
 | .impI f a,d=>by have:=ZR hS f d;have:=tF hS a d;simp only [Pf.pu,Pf.cnt];omega
 | .all _ _ a,d=>by have:=tF hS a (d+1);simp only [Pf.pu,Pf.cnt];omega
 | .ins _ t a,d=>by have:=YR hS t d;have:=tF hS a d;simp only [Pf.pu,Pf.cnt];omega
 | .ex _ f t a,d=>by have:=ZR hS f d;have:=YR hS t d;have:=tF hS a d;simp only [Pf.pu,Pf.cnt];omega
 | .ind l f t a b,d=>by have:=ZR hS f (d+1);have:=YR hS t d;have:=tF hS a d;have:=tF hS b (d+lN l);simp only [Pf.pu,Pf.cnt];omega
 | .subst f a b,d=>by have:=ZR hS f (d+1);have:=tF hS a d;have:=tF hS b d;simp only [Pf.pu,Pf.cnt];omega
theorem gG {S:Tm} (hS:S.shp=true):∀ (p:Pf) (d:Nat),p.ck->(p.pu S d).sh
 | .leaf _ _,_,_=>trivial
 | .refl t,d,h=>qF 0 S t d (.inl hS) (Tm.chk0 h).2
 | .p1 _ a,d,h=>gG hS a d h
 | .p2 _ a b,d,h=>⟨gG hS a d h.1,gG hS b _ h.2⟩
 | .impI f a,d,h=>⟨PH 0 S f d (.inl hS) (Fm.chk0 h.1).2,gG hS a d h.2⟩
 | .all _ s a,d,h=>⟨h.1,gG hS a _ h.2⟩
 | .ins _ t a,d,h=>⟨qF 0 S t d (.inl hS) (Tm.chk0 h.1).2,gG hS a d h.2⟩
 | .ex _ f t a,d,h=>⟨qF 0 S t d (.inl hS) (Tm.chk0 h.1).2,PH 0 S f d (.inl hS) (Fm.chk0 h.2.1).2,gG hS a d h.2.2⟩
 | .ind _ f t a b,d,h=>⟨qF 0 S t d (.inl hS) (Tm.chk0 h.1).2,PH 0 S f _ (.inl hS) (Fm.chk0 h.2.1).2,gG hS a d h.2.2.1,gG hS b _ h.2.2.2⟩
 | .subst f a b,d,h=>⟨PH 0 S f _ (.inl hS) (Fm.chk0 h.1).2,gG hS a d h.2.1,gG hS b d h.2.2⟩
def Pf.oc:Nat->Pf->Nat
 | _,.leaf _ _=>0
 | c,.refl t=>t.occ c
 | c,.p1 _ a=>a.oc c
 | c,.p2 q a b=>a.oc c+b.oc (match q with
  | .andI=>c
  | .impE=>c
  | _=>c+1)
 | c,.impI f a=>f.occ c+a.oc c
 | c,.all _ _ a=>a.oc (c+1)
 | c,.ins _ t a=>t.occ c+a.oc c
 | c,.ex _ f t a=>t.occ c+f.occ c+a.oc c
 | c,.ind l f t a b=>t.occ c+f.occ (c+1)+a.oc c+b.oc (c+lN l)
 | c,.subst f a b=>f.occ (c+1)+a.oc c+b.oc c
theorem qC:∀ (p:Pf) (c:Nat),p.oc c<=p.cnt
 | .leaf _ _,_=>Nat.zero_le _
 | .refl t,c=>by have:=yB t c;simp only [Pf.oc,Pf.cnt];omega
 | .p1 _ a,c=>by have:=qC a c;simp only [Pf.oc,Pf.cnt];omega
 | .p2 _ a b,c=>by
  have:=qC a c;simp only [Pf.oc,Pf.cnt];split<;>(have:=qC b c;have:=qC b (c+1);omega)
 | .impI f a,c=>by have:=YC f c;have:=qC a c;simp only [Pf.oc,Pf.cnt];omega
 | .all _ _ a,c=>by have:=qC a (c+1);simp only [Pf.oc,Pf.cnt];omega
 | .ins _ t a,c=>by have:=yB t c;have:=qC a c;simp only [Pf.oc,Pf.cnt];omega
 | .ex _ f t a,c=>by have:=YC f c;have:=yB t c;have:=qC a c;simp only [Pf.oc,Pf.cnt];omega
 | .ind l f t a b,c=>by have:=YC f (c+1);have:=yB t c;have:=qC a c;have:=qC b (c+lN l);simp only [Pf.oc,Pf.cnt];omega
 | .subst f a b,c=>by have:=YC f (c+1);have:=qC a c;have:=qC b c;simp only [Pf.oc,Pf.cnt];omega
theorem NJ:∀ t:Tm,t.tsz<=64->t.shp=true
 | .v _,_=>rfl
 | .n0 _,_=>rfl
 | .lam s b,h=>by
  have h:max s.size b.tsz<=64:=h;show (_ && _)=true;rw [AK (by omega),NJ b (by omega)];rfl
 | .n1 _ a,h=>NJ a h
 | .n2 _ a b,h=>by
  have h:max a.tsz b.tsz<=64:=h;show (_ && _)=true;rw [NJ a (by omega),NJ b (by omega)];rfl
 | .n3 _ s a b c,h=>by
  have h:max (max s.size a.tsz) (max b.tsz c.tsz)<=64:=h;show (_ && (_ && (_ && _)))=true;rw [AK (by omega),NJ a (by omega),NJ b (by omega),NJ c (by omega)];rfl
theorem JE {S:Tm} (h1:S.mx<=qA * qA) (h2:S.cnt<=qA):∀ (p:Pf) (d:Nat),p.mx<=qA * qA->d+2 * p.cnt<=qA->A 42 [p.p,num 0,num d,S.p] (p.pu S d).p
 | .leaf u i,d,_,_=>f0 []
 | .refl t,d,h,h'=>by
  have h':d+2 * (1+t.cnt)<=qA:=h';exact f1 [(36,.r (t.put 0 S d).p)] (iE t 0 d S h1 h2 h (by omega))
 | .p1 q a,d,h,h'=>by
  have h':d+2 * (1+a.cnt)<=qA:=h';have hm:=zA;have g0:=rA (show d<=_ by omega);cases q<;>exact f2 [(80,.ok),(82,.r (a.pu S d).p)] g0 (JE h1 h2 a d h (by omega))
 | .p2 q a b,d,h,h'=>by
  have h:max a.mx b.mx<=qA * qA:=h;have h':d+2 * (1+a.cnt+b.cnt)<=qA:=h';have hm:=zA;have g0:=rA (show d<=_ by omega);have g1:=rA (show d+1<=_ by omega);have ga:=JE h1 h2 a d (by omega) (by omega);have gb:=JE h1 h2 b d (by omega) (by omega);have gc:=JE h1 h2 b (d+1) (by omega) (by omega);cases q
  ·exact f4 [(80,.ok),(82,.r (a.pu S d).p),(80,.ok),(82,.r (b.pu S d).p)] g0 ga g0 gb
  ·exact f4 [(80,.ok),(82,.r (a.pu S d).p),(80,.ok),(82,.r (b.pu S d).p)] g0 ga g0 gb
  ·exact f4 [(80,.ok),(82,.r (a.pu S d).p),(80,.ok),(82,.r (b.pu S (d+1)).p)] g0 ga g1 gc
  ·exact f4 [(80,.ok),(82,.r (a.pu S d).p),(80,.ok),(82,.r (b.pu S (d+1)).p)] g0 ga g1 gc
 | .impI f a,d,h,h'=>by
  have h:max f.mx a.mx<=qA * qA:=h;have h':d+2 * (1+f.cnt+a.cnt)<=qA:=h';have hm:=zA;have g0:=rA (show d<=_ by omega);exact f4 [(56,.ok),(58,.r (f.put 0 S d).p),(80,.ok),(82,.r (a.pu S d).p)] g0 (iI f 0 d S h1 h2 (by omega) (by omega)) g0 (JE h1 h2 a d (by omega) (by omega))
 | .all u s a,d,h,h'=>by
  have h':d+2 * (1+a.cnt)<=qA:=h';have hm:=zA;have g1:=rA (show d+1<=_ by omega);cases u<;>exact f2 [(80,.ok),(82,.r (a.pu S (d+1)).p)] g1 (JE h1 h2 a (d+1) h (by omega))
 | .ins u t a,d,h,h'=>by
  have h:max t.mx a.mx<=qA * qA:=h;have h':d+2 * (1+t.cnt+a.cnt)<=qA:=h';have hm:=zA;have g0:=rA (show d<=_ by omega);cases u<;>exact f3 [(36,.r (t.put 0 S d).p),(80,.ok),(82,.r (a.pu S d).p)] (iE t 0 d S h1 h2 (by omega) (by omega)) g0 (JE h1 h2 a d (by omega) (by omega))
 | .ex u f t a,d,h,h'=>by
  have h:max (max t.mx f.mx) a.mx<=qA * qA:=h;have h':d+2 * (1+t.cnt+f.cnt+a.cnt)<=qA:=h';have hm:=zA;have g0:=rA (show d<=_ by omega);cases u<;>exact f5 [(36,.r (t.put 0 S d).p),(56,.ok),(58,.r (f.put 0 S d).p),(80,.ok),(82,.r (a.pu S d).p)] (iE t 0 d S h1 h2 (by omega) (by omega)) g0 (iI f 0 d S h1 h2 (by omega) (by omega)) g0 (JE h1 h2 a d (by omega) (by omega))
 | .ind l f t a b,d,h,h'=>by
  have h:max (max (max t.mx f.mx) a.mx) b.mx<=qA * qA:=h;have h':d+2 * (1+t.cnt+f.cnt+a.cnt+b.cnt)<=qA:=h';have hm:=zA;have hf:=TB t;have g0:=rA (show d<=_ by omega);have g1:=rA (show d+1<=_ by omega);have g2:=rA (show d+2<=_ by omega);have gt:=iE t 0 d S h1 h2 (by omega) (by omega);have gf:=iI f 0 (d+1) S h1 h2 (by omega) (by omega);have ga:=JE h1 h2 a d (by omega) (by omega);cases l
  ·exact f7 [(36,.r (t.put 0 S d).p),(56,.ok),(58,.r (f.put 0 S (d+1)).p),(80,.ok),(82,.r (a.pu S d).p),(80,.ok),(82,.r (b.pu S (d+1)).p)] gt g1 gf g0 ga g1 (JE h1 h2 b (d+1) (by omega) (by omega))
  ·exact f7 [(36,.r (t.put 0 S d).p),(56,.ok),(58,.r (f.put 0 S (d+1)).p),(80,.ok),(82,.r (a.pu S d).p),(80,.ok),(82,.r (b.pu S (d+2)).p)] gt g1 gf g0 ga g2 (JE h1 h2 b (d+2) (by omega) (by omega))
 | .subst f a b,d,h,h'=>by
  have h:max (max f.mx a.mx) b.mx<=qA * qA:=h;have h':d+2 * (1+f.cnt+a.cnt+b.cnt)<=qA:=h';have hm:=zA;have g0:=rA (show d<=_ by omega);have g1:=rA (show d+1<=_ by omega);exact f6 [(56,.ok),(58,.r (f.put 0 S (d+1)).p),(80,.ok),(82,.r (a.pu S d).p),(80,.ok),(82,.r (b.pu S d).p)] g1 (iI f 0 (d+1) S h1 h2 (by omega) (by omega)) g0 (JE h1 h2 a d (by omega) (by omega)) g0 (JE h1 h2 b d (by omega) (by omega))
abbrev oneT:Tm:=.n1 .succ (.n0 .zero)
theorem qS (f:Fm) (c n:Nat) (h:f.mx<=qA * qA) (h':c+f.cnt<=qA) (hn:n<=qA):A 88 [f.p,num c,num 0,oneT.p] (f.put c oneT 0).p/\A 87 [(f.put c oneT 0).p] (num (f.put c oneT 0).cnt)/\A 87 [f.p] (num f.cnt) /\
  (aA (Int.ofNat (f.put c oneT 0).cnt - .ofNat f.cnt)=true/\Int.ofNat (f.put c oneT 0).cnt - .ofNat f.cnt = .ofNat (f.occ c))/\(aA (Int.ofNat n + .ofNat (f.occ c))=true/\Int.ofNat n + .ofNat (f.occ c) = .ofNat (n+f.occ c)):=by
 have hm:=zA;have hb:=kA;have e:=aI c oneT f 0;have e2:oneT.cnt=2:=rfl;have ho:=YC f c;rw [e2,Nat.add_zero] at e;have e3:Int.ofNat (f.put c oneT 0).cnt - .ofNat f.cnt = .ofNat (f.occ c):=by simp;omega
 exact⟨iI f c 0 oneT (by show 0<=_;exact Nat.zero_le _) (by rw [e2];omega) h (by omega),eD _ (by omega),eD f (by omega),⟨by rw [e3];exact fB (by omega),e3⟩,iA (by omega)⟩
theorem zP:A 26 [num 5,row [.n0 .zero]] oneT.p:=RM 5 (.n0 .zero)
theorem jP:A 26 [num 4,row []] (Tm.n0 .zero).p:=QM 4
theorem ME:∀ (p:Pf) (c:Nat),p.mx<=qA * qA->c+2 * p.cnt<=qA->A 40 [p.p,num c] (num (p.oc c))
 | .leaf u i,c,_,_=>f0 []
 | .refl t,c,h,h'=>by
  have h':c+2 * (1+t.cnt)<=qA:=h';have hm:=zA;have hb:=kA;have ho:=yB t c;have g:=iC (a:=0) (b:=t.occ c) (c:=t.occ c) (by omega) (Nat.zero_add _);exact f2 [(22,.N (t.occ c)),(23,.z (t.occ c))] (eE t c (by omega)) g
 | .p1 q a,c,h,h'=>by
  have h':c+2 * (1+a.cnt)<=qA:=h';have hm:=zA;have hb:=kA;have g0:=rA (show c<=_ by omega);have ho:=qC a c;have g:=iC (a:=0) (b:=a.oc c) (c:=a.oc c) (by omega) (Nat.zero_add _);cases q<;>exact f3 [(64,.ok),(65,.N (a.oc c)),(66,.z (a.oc c))] g0 (ME a c h (by omega)) g
 | .p2 q a b,c,h,h'=>by
  have h:max a.mx b.mx<=qA * qA:=h;have h':c+2 * (1+a.cnt+b.cnt)<=qA:=h';have hm:=zA;have hb:=kA;have g0:=rA (show c<=_ by omega);have g1:=rA (show c+1<=_ by omega);have ho:=qC a c;have ho1:=qC b c;have ho2:=qC b (c+1);have g:=iC (a:=0) (b:=a.oc c) (c:=a.oc c) (by omega) (Nat.zero_add _);have k1:=iA (a:=a.oc c) (b:=b.oc c) (by omega);have k2:=iA (a:=a.oc c) (b:=b.oc (c+1)) (by omega);have ga:=ME a c (by omega) (by omega);have gb:=ME b c (by omega) (by omega);have gc:=ME b (c+1) (by omega) (by omega);cases q
  ·exact f6 [(64,.ok),(65,.N (a.oc c)),(66,.z (a.oc c)),(64,.ok),(65,.N (b.oc c)),(66,.z (a.oc c+b.oc c))] g0 ga g g0 gb k1
  ·exact f6 [(64,.ok),(65,.N (a.oc c)),(66,.z (a.oc c)),(64,.ok),(65,.N (b.oc c)),(66,.z (a.oc c+b.oc c))] g0 ga g g0 gb k1
  ·exact f6 [(64,.ok),(65,.N (a.oc c)),(66,.z (a.oc c)),(64,.ok),(65,.N (b.oc (c+1))),(66,.z (a.oc c+b.oc (c+1)))] g0 ga g g1 gc k2
  ·exact f6 [(64,.ok),(65,.N (a.oc c)),(66,.z (a.oc c)),(64,.ok),(65,.N (b.oc (c+1))),(66,.z (a.oc c+b.oc (c+1)))] g0 ga g g1 gc k2
 | .impI f a,c,h,h'=>by
  have h:max f.mx a.mx<=qA * qA:=h;have h':c+2 * (1+f.cnt+a.cnt)<=qA:=h';have hm:=zA;have hb:=kA;have g0:=rA (show c<=_ by omega);have ho:=qC a c;have ho1:=YC f c;obtain⟨q1,q2,q3,q4,q5⟩:=qS f c 0 (by omega) (by omega) (Nat.zero_le _);rw [Nat.zero_add] at q5;have k1:=iA (a:=f.occ c) (b:=a.oc c) (by omega);exact f11 [(38,.ok),(39,.r (Tm.n0 .zero).p),(41,.r oneT.p),(42,.r (f.put c oneT 0).p),(43,.N (f.put c oneT 0).cnt),(45,.N f.cnt),(46,.z (f.occ c)),(47,.z (f.occ c)),(64,.ok),(65,.N (a.oc c)),(66,.z (f.occ c+a.oc c))] g0 jP zP q1 q2 q3 q4 q5 g0 (ME a c (by omega) (by omega)) k1
 | .all u s a,c,h,h'=>by
  have h':c+2 * (1+a.cnt)<=qA:=h';have hm:=zA;have g1:=rA (show c+1<=_ by omega);have hb:=kA;have ho:=qC a (c+1);have g:=iC (a:=0) (b:=a.oc (c+1)) (c:=a.oc (c+1)) (by omega) (Nat.zero_add _);cases u<;>exact f3 [(64,.ok),(65,.N (a.oc (c+1))),(66,.z (a.oc (c+1)))] g1 (ME a (c+1) h (by omega)) g
 | .ins u t a,c,h,h'=>by
  have h:max t.mx a.mx<=qA * qA:=h;have h':c+2 * (1+t.cnt+a.cnt)<=qA:=h';have hm:=zA;have hb:=kA;have g0:=rA (show c<=_ by omega);have ho:=qC a c;have ho1:=yB t c;have g:=iC (a:=0) (b:=t.occ c) (c:=t.occ c) (by omega) (Nat.zero_add _);have k1:=iA (a:=t.occ c) (b:=a.oc c) (by omega);cases u<;>exact f5 [(22,.N (t.occ c)),(23,.z (t.occ c)),(64,.ok),(65,.N (a.oc c)),(66,.z (t.occ c+a.oc c))] (eE t c (by omega)) g g0 (ME a c (by omega) (by omega)) k1
 | .ex u f t a,c,h,h'=>by
  have h:max (max t.mx f.mx) a.mx<=qA * qA:=h;have h':c+2 * (1+t.cnt+f.cnt+a.cnt)<=qA:=h';have hm:=zA;have hb:=kA;have g0:=rA (show c<=_ by omega);have ho:=qC a c;have ho1:=yB t c;have ho2:=YC f c;have g:=iC (a:=0) (b:=t.occ c) (c:=t.occ c) (by omega) (Nat.zero_add _);obtain⟨q1,q2,q3,q4,q5⟩:=qS f c (t.occ c) (by omega) (by omega) (by omega);have k1:=iA (a:=t.occ c+f.occ c) (b:=a.oc c) (by omega);cases u<;>exact f13 [(22,.N (t.occ c)),(23,.z (t.occ c)),(38,.ok),(39,.r (Tm.n0 .zero).p),(41,.r oneT.p),(42,.r (f.put c oneT 0).p),(43,.N (f.put c oneT 0).cnt),(45,.N f.cnt),(46,.z (f.occ c)),(47,.z (t.occ c+f.occ c)),(64,.ok),(65,.N (a.oc c)),(66,.z (t.occ c+f.occ c+a.oc c))] (eE t c (by omega)) g g0 jP zP q1 q2 q3 q4 q5 g0 (ME a c (by omega) (by omega)) k1
 | .ind l f t a b,c,h,h'=>by
  have h:max (max (max t.mx f.mx) a.mx) b.mx<=qA * qA:=h;have h':c+2 * (1+t.cnt+f.cnt+a.cnt+b.cnt)<=qA:=h';have hm:=zA;have hb:=kA;have hf:=TB t;have g0:=rA (show c<=_ by omega);have g1:=rA (show c+1<=_ by omega);have g2:=rA (show c+2<=_ by omega);have ho:=qC a c;have ho1:=yB t c;have ho2:=YC f (c+1);have ho3:=qC b (c+1);have ho4:=qC b (c+2);have g:=iC (a:=0) (b:=t.occ c) (c:=t.occ c) (by omega) (Nat.zero_add _);have gt:=eE t c (by omega);obtain⟨q1,q2,q3,q4,q5⟩:=qS f (c+1) (t.occ c) (by omega) (by omega) (by omega);have k1:=iA (a:=t.occ c+f.occ (c+1)) (b:=a.oc c) (by omega);have ga:=ME a c (by omega) (by omega);cases l
  ·have k2:=iA (a:=t.occ c+f.occ (c+1)+a.oc c) (b:=b.oc (c+1)) (by omega);exact f16 [(22,.N (t.occ c)),(23,.z (t.occ c)),(38,.ok),(39,.r (Tm.n0 .zero).p),(41,.r oneT.p),(42,.r (f.put (c+1) oneT 0).p),(43,.N (f.put (c+1) oneT 0).cnt),(45,.N f.cnt),(46,.z (f.occ (c+1))),(47,.z (t.occ c+f.occ (c+1))),(64,.ok),(65,.N (a.oc c)),(66,.z (t.occ c+f.occ (c+1)+a.oc c)),(64,.ok),(65,.N (b.oc (c+1))),(66,.z (t.occ c+f.occ (c+1)+a.oc c+b.oc (c+1)))] gt g g1 jP zP q1 q2 q3 q4 q5 g0 ga k1 g1 (ME b (c+1) (by omega) (by omega)) k2
  ·have k2:=iA (a:=t.occ c+f.occ (c+1)+a.oc c) (b:=b.oc (c+2)) (by omega);exact f16 [(22,.N (t.occ c)),(23,.z (t.occ c)),(38,.ok),(39,.r (Tm.n0 .zero).p),(41,.r oneT.p),(42,.r (f.put (c+1) oneT 0).p),(43,.N (f.put (c+1) oneT 0).cnt),(45,.N f.cnt),(46,.z (f.occ (c+1))),(47,.z (t.occ c+f.occ (c+1))),(64,.ok),(65,.N (a.oc c)),(66,.z (t.occ c+f.occ (c+1)+a.oc c)),(64,.ok),(65,.N (b.oc (c+2))),(66,.z (t.occ c+f.occ (c+1)+a.oc c+b.oc (c+2)))] gt g g1 jP zP q1 q2 q3 q4 q5 g0 ga k1 g2 (ME b (c+2) (by omega) (by omega)) k2
 | .subst f a b,c,h,h'=>by
  have h:max (max f.mx a.mx) b.mx<=qA * qA:=h;have h':c+2 * (1+f.cnt+a.cnt+b.cnt)<=qA:=h';have hm:=zA;have hb:=kA;have g0:=rA (show c<=_ by omega);have g1:=rA (show c+1<=_ by omega);have ho:=qC a c;have ho1:=qC b c;have ho2:=YC f (c+1);obtain⟨q1,q2,q3,q4,q5⟩:=qS f (c+1) 0 (by omega) (by omega) (Nat.zero_le _);rw [Nat.zero_add] at q5;have k1:=iA (a:=f.occ (c+1)) (b:=a.oc c) (by omega);have k2:=iA (a:=f.occ (c+1)+a.oc c) (b:=b.oc c) (by omega);exact f14 [(38,.ok),(39,.r (Tm.n0 .zero).p),(41,.r oneT.p),(42,.r (f.put (c+1) oneT 0).p),(43,.N (f.put (c+1) oneT 0).cnt),(45,.N f.cnt),(46,.z (f.occ (c+1))),(47,.z (f.occ (c+1))),(64,.ok),(65,.N (a.oc c)),(66,.z (f.occ (c+1)+a.oc c)),(64,.ok),(65,.N (b.oc c)),(66,.z (f.occ (c+1)+a.oc c+b.oc c))] g1 jP zP q1 q2 q3 q4 q5 g0 (ME a c (by omega) (by omega)) k1 g0 (ME b c (by omega) (by omega)) k2
abbrev Ub:PV:=.agg [num 0,num 0,num 0,.slice [],.slice [],.slice [],.slice []]
abbrev Vb:PV:=.agg [num 0,num 0,num 0,.slice [],.slice []]
theorem TK.a31 {n:Nat} {t:Tm} (h:TK n t):A 36 [t.p] (num 0):=by
 have hb:=kA;have q:=Go.Proofs.YtnkoaepelgbhfaaGreatDoor.a31 t (by have:=BE t h.shp;omega) (by have:=h.cnt;omega);rwa [h.chk] at q
theorem Tl {p:Pf} {S:Tm} (hc:p.ck) (h1:p.cnt<=16384) (h2:p.tsz<=qA) (h3:p.mx<=NC) (hS:TK 0 S) :
  A 10 [p.p,num 0,S.p] (.tuple [Ub,num 4])\/A 10 [p.p,num 0,S.p] (.tuple [(p.pu S 0).p,num 0])/\(p.pu S 0).ck/\(p.pu S 0).cnt<=16384:=by
 have hm:=zA;have hb:=kA;have e2:qA * qA=1125899906842624:=rfl;have e3:NC=536870912:=rfl;have c1:=hS.cnt;have c2:=hS.mx (Nat.zero_le _);have c3:=TB S;have c4:=qC p 0;have c5:=Nat.mul_le_mul c4 (show S.cnt-1<=4096 by omega);have c6:=tF c1 p 0;have k1:=Kk p h1 h2 hc;have k2:=hS.a31;have k3:=vG p h3;have k4:=VD S (by omega);have k5:=YD p (by omega);have k6:=ME p 0 (by omega) (by omega);have k7:=qB S (by omega);have k8:=uB (a:=S.cnt) c3 (by omega);have k9:=IL (a:=p.oc 0) (b:=S.cnt-1) (by omega) rfl;have k10:=iC (a:=p.cnt) (b:=p.oc 0 * (S.cnt-1)) (by omega) rfl;by_cases hl:p.cnt+p.oc 0 * (S.cnt-1)<=16384
 ·have k11:=JA (a:=16384) (b:=p.cnt+p.oc 0 * (S.cnt-1)) hl;have k12:=JE (S:=S) (by omega) (by omega) p 0 (by omega) (by omega);obtain⟨r,k13,q⟩:=yc (p.pu S 0) (by omega);cases r
  ·exact .inl (f13 [(12,.N 0),(25,.N 0),(31,.T),(35,.T),(40,.N p.cnt),(43,.N (p.oc 0)),(45,.N S.cnt),(46,.z (S.cnt-1)),(47,.z (p.oc 0 * (S.cnt-1))),(48,.z (p.cnt+p.oc 0 * (S.cnt-1))),(49,.H),(54,.r (p.pu S 0).p),(56,.F)] k1 k2 k3 k4 k5 k6 k7 k8 k9 k10 k11 k12 k13)
  ·exact .inr ⟨f14 [(12,.N 0),(25,.N 0),(31,.T),(35,.T),(40,.N p.cnt),(43,.N (p.oc 0)),(45,.N S.cnt),(46,.z (S.cnt-1)),(47,.z (p.oc 0 * (S.cnt-1))),(48,.z (p.cnt+p.oc 0 * (S.cnt-1))),(49,.H),(54,.r (p.pu S 0).p),(56,.T),(60,.r (p.pu S 0).p)] k1 k2 k3 k4 k5 k6 k7 k8 k9 k10 k11 k12 k13 (XD (p.pu S 0)),Pf.ck_i _ (gG hS.shp p 0 hc) (q rfl).1,(q rfl).2⟩
 ·have k11:=cA (a:=16384) (b:=p.cnt+p.oc 0 * (S.cnt-1)) (by omega);exact .inl (f11 [(12,.N 0),(25,.N 0),(31,.T),(35,.T),(40,.N p.cnt),(43,.N (p.oc 0)),(45,.N S.cnt),(46,.z (S.cnt-1)),(47,.z (p.oc 0 * (S.cnt-1))),(48,.z (p.cnt+p.oc 0 * (S.cnt-1))),(49,.G)] k1 k2 k3 k4 k5 k6 k7 k8 k9 k10 k11)
theorem putT {n:Nat} {t S:Tm} (ht:TK n t) (hn:n<=100) (hS:TK 0 S):A 13 [t.p,num 0,S.p] (.tuple [Vb,num 4])\/A 13 [t.p,num 0,S.p] (.tuple [(t.put 0 S 0).p,num 0]):=by
 have hm:=zA;have hb:=kA;have e2:qA * qA=1125899906842624:=rfl;have e3:NC=536870912:=rfl;have hl:DA=100000:=rfl;have c1:=hS.cnt;have c2:=hS.mx (Nat.zero_le _);have c3:=TB S;have c7:=ht.cnt;have c8:=ht.mx (by omega);have c4:=yB t 0;have c5:=YW (a:=t.occ 0) (b:=S.cnt-1) (by omega) (by omega);have k1:=ht.a31;have k2:=hS.a31;have k3:=VD t (by omega);have k4:=VD S (by omega);have k5:=qB t (by omega);have k6:=eE t 0 (by omega);have k7:=qB S (by omega);have k8:=uB (a:=S.cnt) c3 (by omega);have k9:=IL (a:=t.occ 0) (b:=S.cnt-1) (by omega) rfl;have k10:=iC (a:=t.cnt) (b:=t.occ 0 * (S.cnt-1)) (by omega) rfl;by_cases hl:t.cnt+t.occ 0 * (S.cnt-1)<=4096
 ·have k11:=JA (a:=4096) (b:=t.cnt+t.occ 0 * (S.cnt-1)) hl;have k12:=iE t 0 0 S (by omega) (by omega) (by omega) (by omega);exact .inr (f13 [(11,.N 0),(24,.N 0),(30,.T),(34,.T),(39,.N t.cnt),(42,.N (t.occ 0)),(44,.N S.cnt),(45,.z (S.cnt-1)),(46,.z (t.occ 0 * (S.cnt-1))),(47,.z (t.cnt+t.occ 0 * (S.cnt-1))),(48,.H),(53,.r (t.put 0 S 0).p),(54,.r (t.put 0 S 0).p)] k1 k2 k3 k4 k5 k6 k7 k8 k9 k10 k11 k12 (SB (t.put 0 S 0)))
 ·have k11:=cA (a:=4096) (b:=t.cnt+t.occ 0 * (S.cnt-1)) (by omega);exact .inl (f11 [(11,.N 0),(24,.N 0),(30,.T),(34,.T),(39,.N t.cnt),(42,.N (t.occ 0)),(44,.N S.cnt),(45,.z (S.cnt-1)),(46,.z (t.occ 0 * (S.cnt-1))),(47,.z (t.cnt+t.occ 0 * (S.cnt-1))),(48,.G)] k1 k2 k3 k4 k5 k6 k7 k8 k9 k10 k11)
open Go.Lg
theorem two {j:Jt} (hD:j.D [] [.nat] []) (hc:j.p.ck) (hp:j.p.cnt<=16384) {n:Tm} (hn:n.sc 0) (hty:n.tyR [] = .ok .nat) (hc':(j.p.pu n 0).ck) (hp':(j.p.pu n 0).cnt<=16384) :
  ∃ r1 r2:XR,A 11 [fA [],row [],ZA [.nat] [],j.p.p] r1.p/\A 11 [fA [],row [],ZA [] [],(j.p.pu n 0).p] r2.p /\
   ((∃ e,Lm (e+1)/\r1 = .er .z e)\/(r1 = .er .z 39/\(r2 = .er .z 39 \/ ∃ e,Lm (e+1)/\r2 = .er .z e)) \/ ∃ t,r1.Gd 1 t/\((∃ e,Lm (e+1)/\r2 = .er .z e)\/r2.Gd 0 (t.put 0 n 0))):=by
 have hSN:SNg [.nat] [] (AH n 0):=λ i s e=>by
  cases i with
  | zero =>
   show ((Tm.v 0).put 0 n 0).tyR []=_;rw [ZF,hty];exact e
  | succ i=>exact nomatch (show cB [] i = .ok s from (SO [] .nat i).symm.trans e)
 have e:=fG n j 0;have hL2:(j.sub (AH n 0)).L [] [] []:=WD j [.nat] [] [] (AH n 0) hSN hD;obtain⟨r1,k1,q1⟩:=Tb [.nat] (by decide) (by simp [Ty.size]) j (Sl hD) hc hp;obtain⟨r2,k2,q2⟩:=Tb [] (by decide) (by simp) (j.sub (AH n 0)) hL2 (by rw [e];exact hc') (by rw [e];exact hp');rw [e] at k2;refine⟨r1,r2,k1,k2,?_⟩;rw [EC,kG] at q2;rcases q1 with q1|⟨h1,rfl⟩|⟨h1,i1,ei,hO,hi,G1⟩
 ·exact .inl q1
 ·rcases q2 with q2|⟨h2,rfl⟩|⟨h2,_⟩
  ·exact .inr (.inl ⟨rfl,.inr q2⟩)
  ·exact .inr (.inl ⟨rfl,.inl rfl⟩)
  ·rw [h1] at h2;cases h2
 ·refine .inr (.inr ⟨_,G1,?_⟩);rcases q2 with q2|⟨h2,rfl⟩|⟨h2,i2,ei2,hO2,hi2,G2⟩
  ·exact .inl q2
  ·rw [h1] at h2;cases h2
  ·have hP:PX (AH n 0) i1.p i2.p:=by rw [ei,ei2];exact yG j _
   have h:=Rl hO hO2 hP (λ v hv=>by
    have hv:v<1:=hv;obtain rfl:v=0:=by omega
    show ((Tm.v 0).put 0 n 0).sc 0;rw [ZF];exact hn) hi
   rw [qP] at h;exact .inr (by rw [h] at G2;exact G2)
abbrev NE (L:List Int) (b1 b2:Nat) (p:Pf) (r:PR) (n:Tm) (q:PV) (tl:Di):Di:=(15,.T)::(19,.T)::(30,.D L b1 (.pv (.tuple [p.p,r.v])))::(35,.D L b2 (.pv n.p))::(39,.r q)::tl
theorem Ul (H:MF) (hA:A 4 [] (.bool true)) {L:List Int} (hr:∀ z∈L,-9223372036854775808<=z/\z<=9223372036854775807):A 3 [.slice (L.map WH)] (.bool true):=by
 have hm:=zA;have hbg:=kA;have gf:=a5 L;by_cases hlen:L.length<=500;rotate_left
 ·rw [decide_eq_false hlen] at gf;exact f3 [(15,.T),(19,.F),(22,.T)] hA gf hA
 rw [decide_eq_true hlen] at gf;have hL:Dk L:=⟨hlen,hr⟩;have hS:S19 QA [] [.nat] []:=⟨by simp,by simp,by simp,by simp [Ty.size],by simp,by simp,Nat.le_refl _⟩;obtain⟨p,r,b1,hr3,qp,qr,hb1,g1⟩:=a9 H hL hS (Nat.zero_le _);obtain⟨n,b2,qn,hb2,g2⟩:=AX hL (S:=3) (Nat.le_refl _) (by omega) 2 .nat [] b1 (by decide) (by simp) (by simp) hb1;have hn:TK 0 n:=⟨Nat.le_trans qn.cnt (by decide),NJ n (by have:=qn.tsz;omega),qn.sc⟩;have key:∃ j:Jt,j.p=p/\j.D [] [.nat] []/\j.p.ck/\j.p.cnt<=16384:=by
  rcases hr3 with ⟨f,u,rfl⟩|⟨y,rfl,hy⟩
  ·obtain⟨-,hc,hp,⟨j,rfl,-,hD,-⟩,-⟩:=qr f u rfl;exact⟨j,rfl,hD,hc,hp⟩
  ·refine⟨.refl (UA y),rfl,?_⟩;rcases y with _|_|_|_|y
   ·exact⟨⟨rfl,rfl,rfl⟩,rfl,by decide⟩
   ·exact⟨⟨rfl,rfl,rfl⟩,rfl,by decide⟩
   ·exact⟨⟨rfl,rfl,rfl⟩,rfl,by decide⟩
   ·exact⟨⟨rfl,rfl,rfl⟩,rfl,by decide⟩
   ·omega
 obtain⟨j,rfl,hD,hc,hp⟩:=key;have hO:=(jE (ls:=[]) (λ f h=>nomatch h) j [.nat] [] hD (by simp [Ty.size]) (by decide) (λ f h=>nomatch h) hc).1;have hx:=UD j _ [] hO;have e1 : [Ty.nat].length=1:=rfl;rcases Tl hc hp qp.tsz (by have e3:NC=536870912:=rfl;omega) hn with kp|⟨kp,hc',hp'⟩
 ·exact f5 (NE L b1 b2 j.p r n (.tuple [Ub,num 4]) []) hA gf g1 g2 kp
 obtain⟨r1,r2,k1,k2,hq⟩:=two hD hc hp hn.sc qn.ty hc' hp';have lm:∀ e,Lm (e+1)->e=2\/e=3\/e=4:=λ e h=>by omega
 rcases hq with ⟨e,he,rfl⟩|⟨rfl,rfl|⟨e,he,rfl⟩⟩|⟨t,q1,q2⟩
 ·rcases lm e he with rfl|rfl|rfl
  ·exact f7 (NE L b1 b2 j.p r n (.tuple [(j.p.pu n 0).p,num 0]) [(49,.r (XR.er .z 2).p),(55,.r r2.p)]) hA gf g1 g2 kp k1 k2
  ·exact f7 (NE L b1 b2 j.p r n (.tuple [(j.p.pu n 0).p,num 0]) [(49,.r (XR.er .z 3).p),(55,.r r2.p)]) hA gf g1 g2 kp k1 k2
  ·exact f7 (NE L b1 b2 j.p r n (.tuple [(j.p.pu n 0).p,num 0]) [(49,.r (XR.er .z 4).p),(55,.r r2.p)]) hA gf g1 g2 kp k1 k2
 ·exact f7 (NE L b1 b2 j.p r n (.tuple [(j.p.pu n 0).p,num 0]) [(49,.r (XR.er .z 39).p),(55,.r (XR.er .z 39).p)]) hA gf g1 g2 kp k1 k2
 ·rcases lm e he with rfl|rfl|rfl
  ·exact f7 (NE L b1 b2 j.p r n (.tuple [(j.p.pu n 0).p,num 0]) [(49,.r (XR.er .z 39).p),(55,.r (XR.er .z 2).p)]) hA gf g1 g2 kp k1 k2
  ·exact f7 (NE L b1 b2 j.p r n (.tuple [(j.p.pu n 0).p,num 0]) [(49,.r (XR.er .z 39).p),(55,.r (XR.er .z 3).p)]) hA gf g1 g2 kp k1 k2
  ·exact f7 (NE L b1 b2 j.p r n (.tuple [(j.p.pu n 0).p,num 0]) [(49,.r (XR.er .z 39).p),(55,.r (XR.er .z 4).p)]) hA gf g1 g2 kp k1 k2
 cases r1 with
 | er x m =>
  obtain rfl:m=3:=q1;exact f7 (NE L b1 b2 j.p r n (.tuple [(j.p.pu n 0).p,num 0]) [(49,.r (XR.er x 3).p),(55,.r r2.p)]) hA gf g1 g2 kp k1 k2
 | ok t1 =>
  obtain⟨h1,rfl⟩:=q1;have lm2:∀ x e,r2 = .er x e->(e=2\/e=3\/e=4)->A 3 [.slice (L.map WH)] (.bool true):=λ x e e2 he=>by
   subst e2;rcases he with rfl|rfl|rfl
   ·exact f7 (NE L b1 b2 j.p r n (.tuple [(j.p.pu n 0).p,num 0]) [(49,.r (XR.ok t1).p),(55,.r (XR.er x 2).p)]) hA gf g1 g2 kp k1 k2
   ·exact f7 (NE L b1 b2 j.p r n (.tuple [(j.p.pu n 0).p,num 0]) [(49,.r (XR.ok t1).p),(55,.r (XR.er x 3).p)]) hA gf g1 g2 kp k1 k2
   ·exact f7 (NE L b1 b2 j.p r n (.tuple [(j.p.pu n 0).p,num 0]) [(49,.r (XR.ok t1).p),(55,.r (XR.er x 4).p)]) hA gf g1 g2 kp k1 k2
  rcases q2 with ⟨e,he,e2⟩|q2
  ·exact lm2 _ e e2 (lm e he)
  cases r2 with
  | er x m=>exact lm2 x m rfl (.inr (.inl q2))
  | ok t2 =>
   obtain⟨h2,rfl⟩:=q2;rcases putT h1 (by omega) hn with kt|kt
   ·exact f8 (NE L b1 b2 j.p r n (.tuple [(j.p.pu n 0).p,num 0]) [(49,.r (XR.ok t1).p),(55,.r (XR.ok (t1.put 0 n 0)).p),(81,.U [Vb,num 4])]) hA gf g1 g2 kp k1 k2 kt
   ·obtain⟨w,s1,z1⟩:=BH (t1.put 0 n 0) (t1.put 0 n 0);rw [z1.2 rfl] at s1;exact f9 (NE L b1 b2 j.p r n (.tuple [(j.p.pu n 0).p,num 0]) [(49,.r (XR.ok t1).p),(55,.r (XR.ok (t1.put 0 n 0)).p),(81,.U [(t1.put 0 n 0).p,num 0]),(92,.T)]) hA gf g1 g2 kp k1 k2 kt s1
end Go.Proofs.YtnkoaepelgbhfaaGreatDoor
