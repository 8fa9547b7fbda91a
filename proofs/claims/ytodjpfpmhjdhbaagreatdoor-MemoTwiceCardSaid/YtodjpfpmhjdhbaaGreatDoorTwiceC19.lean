/- Contracts of functions; no conditions. -/
import Derived.Test.YtodjpfpmhjdhbaaGreatDoorTwiceC18
import Derived.Test.YtodjpfpmhjdhbaaGreatDoorTwiceC17
import Derived.Test.YtodjpfpmhjdhbaaGreatDoorTwiceC4
set_option linter.all false
namespace Go.Proofs.YtodjpfpmhjdhbaaGreatDoor
open Go.Lg
set_option maxRecDepth 10000
set_option maxHeartbeats 4000000
theorem pre_eq:rd49=pre49 dr49:=rfl
noncomputable def lh49:Code:=left (right (inLoop (inBlock (right md49))))
theorem mid_args (c:List Ins) (l b:Nat) (hcode:Okc c) (zs:List It) (hl:b+zs.length+l≤200000) (hz:zs.length≤1000000) (hb:∀ a∈zs,Bd b a) (r:Rm) (m:Mm) (hi:Inv l b m) (hr:EntsM c l m zs r) (Q:AEx→St→Prop)
  (hstop:∀ m1 σ,r = .stop m1→Inv l (b+zs.length) m1→Weak (XX [] 38 [901,980,981,982,983,984,985,4,5]) σ (GS c l [(0,.loc 901 0),(4,.loc 4 0),(5,.loc 5 0)] m1)→Q .normal σ) (herr:∀ e σ,r = .err e→ErrSt σ→Q (.panic (fail e)) σ) :
  AWP (XX [] 38 [901,980,981,982,983,984,985,4,5]) md49 (GS c l [(0,.loc 901 0),(1,.pv (.slice (zs.map itC))),(4,.loc 4 0),(5,.loc 5 0)] m) Q:=by
 have emd:md49 = .seq (left md49) (.block 2 (.loop (.seq (left (inLoop (inBlock (right md49)))) (.seq lh49 (.seq (.block 3 rd49) (right (right (right (inLoop (inBlock (right md49))))))))))):=rfl
 rw [emd]
 have hlen:(zs.map itC).length=zs.length:=by simp
 refine ex_seq ?_
 have hw0:=fun (S':List (Nat × V)) (U:List Nat) hS=>GS_slots (c:=c) (l:=l) (S':=S') (U:=U) hi.nm hS (names_S2 (.slice (zs.map itC)) zs.length 0)
 have key:∀ σ,Weak (XX [] 38 [901,980,981,982,983,984,985,4,5]) σ (GS c l (S2 (.slice (zs.map itC)) zs.length 0) m)→AWP (XX [] 38 [901,980,981,982,983,984,985,4,5]) (.block 2 (.loop (.seq (left (inLoop (inBlock (right md49)))) (.seq lh49 (.seq (.block 3 rd49) (right (right (right (inLoop (inBlock (right md49)))))))))))  σ Q:=by
  intro σ hw
  refine AWP.weaken hw ?_
  refine ex_block ?_
  refine AWP.loop (ι:={ p:Nat × Mm // p.1≤zs.length∧Inv l (b+p.1) p.2∧EntsM c l p.2 (zs.drop p.1) r }) (fun j=>GS c l (S2 (.slice (zs.map itC)) zs.length j.1.1) j.1.2) (fun j=>zs.length-j.1.1) ⟨(0,m),Nat.zero_le _,hi,hr⟩ ?_ ?_
  ·exact GS_slots hi.nm (by simp [S2,slotsLe,getS]) (names_S2 _ _ _)
  ·rintro⟨⟨i,m⟩,hiz,hi,hr⟩
   simp only at hiz hi hr ⊢
   have hws:=fun (m':Mm) (hnm:Nm m') (i:Nat) (S':List (Nat × V)) (U:List Nat) hS=>GS_slots (c:=c) (l:=l) (S':=S') (U:=U) hnm hS (names_S2 (.slice (zs.map itC)) zs.length i)
   have hwo:=fun (S':List (Nat × V)) (U:List Nat) hS=>GS_slots (c:=c) (l:=l) (S:=[(0,.loc 901 0),(4,.loc 4 0),(5,.loc 5 0)]) (S':=S') (U:=U) hi.nm hS (by simp [namesSl,V.names])
   by_cases hlt:i<zs.length
   ·have hzd:zs.drop i=zs[i]::zs.drop (i+1):=List.drop_eq_getElem_cons hlt
    rw [hzd] at hr
    have hgi:zs[i]? = some zs[i]:=List.getElem?_eq_getElem hlt
    have hbi:=hb zs[i] (List.getElem_mem hlt)
    have k1:(i:Int)<zs.length:=by omega
    have hcont:AWP (XX [] 38 [901,980,981,982,983,984,985,4,5]) (.seq (.block 3 rd49) (right (right (right (inLoop (inBlock (right md49))))))) (GS c l (S2 (.slice (zs.map itC)) zs.length i) m) (thenQ (fun σ' => ∃ j : { p:Nat × Mm // p.1≤zs.length∧Inv l (b+p.1) p.2∧EntsM c l p.2 (zs.drop p.1) r },zs.length-j.1.1<zs.length-i∧Weak (XX [] 38 [901,980,981,982,983,984,985,4,5]) σ' (GS c l (S2 (.slice (zs.map itC)) zs.length j.1.1) j.1.2)) (blockQ 2 Q)):=by
     refine ex_seq ?_
     refine ex_block ?_
     rw [pre_eq]
     cases hr with
     | bad h1 h2 h3 =>
      refine ent49 c l (b+i) (by omega) zs i _ hgi hz (hbi.mono (by omega)) m _ _ _ hi h1 h2 _ _ ?_
      intro σ hi2 hw
      refine AWP.weaken hw ?_
      refine drain49 c l (b+i+1) hcode (by omega) _ _ _ _ _ hi2 h3 _ (fun _ _ h=>by cases h) ?_
      intro e σ he hst
      cases he
      simp only [thenQ_panic,blockQ_panic]
      exact herr _ _ rfl hst
     | cons h1 h2 h3 h4 =>
      refine ent49 c l (b+i) (by omega) zs i _ hgi hz (hbi.mono (by omega)) m _ _ _ hi h1 h2 _ _ ?_
      intro σ hi2 hw
      refine AWP.weaken hw ?_
      refine drain49 c l (b+i+1) hcode (by omega) _ _ _ _ _ hi2 h3 _ ?_ (fun _ _ h=>by cases h)
      intro m1 σ he hi3 hw
      obtain rfl:=(Rm.stop.inj he).symm
      (repeat (first|with_reducible refine q_normal ?_|with_reducible refine b_normal ?_))
      refine AWP.weaken hw ?_
      have hn2:EntsM c l m1 (zs.drop (i+1)) r:=h4
      have hfin:=fun (S':List (Nat × V)) (U:List Nat) hS=>hws m1 hi3.nm (i+1) S' U hS
      have hex:∀ σ',Weak (XX [] 38 [901,980,981,982,983,984,985,4,5]) σ' (GS c l (S2 (.slice (zs.map itC)) zs.length (i+1)) m1)→∃ j : { p:Nat × Mm // p.1≤zs.length∧Inv l (b+p.1) p.2∧EntsM c l p.2 (zs.drop p.1) r },zs.length-j.1.1<zs.length-i∧Weak (XX [] 38 [901,980,981,982,983,984,985,4,5]) σ' (GS c l (S2 (.slice (zs.map itC)) zs.length j.1.1) j.1.2):=by
       intro σ' h
       exact⟨⟨(i+1,m1),by simp only;omega,hi3,hn2⟩,by simp only;omega,h⟩
      generalize hPP:(fun σ' => ∃ j : { p:Nat × Mm // p.1≤zs.length∧Inv l (b+p.1) p.2∧EntsM c l p.2 (zs.drop p.1) r },zs.length-j.1.1<zs.length-i∧Weak (XX [] 38 [901,980,981,982,983,984,985,4,5]) σ' (GS c l (S2 (.slice (zs.map itC)) zs.length j.1.1) j.1.2))=PP
      have hex':∀ σ',Weak (XX [] 38 [901,980,981,982,983,984,985,4,5]) σ' (GS c l (S2 (.slice (zs.map itC)) zs.length (i+1)) m1)→PP σ':=by
       intro σ' h
       rw [← hPP]
       exact hex σ' h
      clear hPP hex hws hwo
      unfold GS S2 at *
      generalize gO c l m1=O1 at *
      generalize gU m1=U1 at *
      clear hcode hb hr h4 hn2 hi hi2 hi3 h1 h2 h3 hgi hbi hzd
      have k3:((i+1:Nat):Int)=(i:Int)+1:=by omega
      rw [k3] at hfin hex'
      simp only [md49,c49,Tryz.f84,Option.getD_some,left,right,inBlock,inLoop]
      refine gg ?_
      exact hex' _ (hfin _ _ (by simp [slotsLe,getS]))
    refine ex_seq ?_
    have hw1:=hws m hi.nm i
    have hcont':∀ σ,Weak (XX [] 38 [901,980,981,982,983,984,985,4,5]) σ (GS c l (S2 (.slice (zs.map itC)) zs.length i) m)→AWP (XX [] 38 [901,980,981,982,983,984,985,4,5]) (.seq (.block 3 rd49) (right (right (right (inLoop (inBlock (right md49))))))) σ (thenQ (fun σ' => ∃ j : { p:Nat × Mm // p.1≤zs.length∧Inv l (b+p.1) p.2∧EntsM c l p.2 (zs.drop p.1) r },zs.length-j.1.1<zs.length-i∧Weak (XX [] 38 [901,980,981,982,983,984,985,4,5]) σ' (GS c l (S2 (.slice (zs.map itC)) zs.length j.1.1) j.1.2)) (blockQ 2 Q)):=fun σ h=>AWP.weaken h hcont
    clear hcont hws hwo
    generalize (Code.seq (.block 3 rd49) (right (right (right (inLoop (inBlock (right md49)))))))=CC at *
    generalize (thenQ (fun σ' => ∃ j : { p:Nat × Mm // p.1≤zs.length∧Inv l (b+p.1) p.2∧EntsM c l p.2 (zs.drop p.1) r },zs.length-j.1.1<zs.length-i∧Weak (XX [] 38 [901,980,981,982,983,984,985,4,5]) σ' (GS c l (S2 (.slice (zs.map itC)) zs.length j.1.1) j.1.2)) (blockQ 2 Q))=QQ at *
    clear hr hi hb hcode hzd hgi hbi
    unfold GS S2 at *
    generalize gO c l m=O1 at *
    generalize gU m=U1 at *
    simp only [lh49,md49,c49,Tryz.f84,Option.getD_some,left,right,inBlock,inLoop]
    refine gg ?_
    exact hcont' _ (hw1 _ _ (by simp [slotsLe,getS]))
   ·obtain rfl:i=zs.length:=by omega
    have k1:¬ (zs.length:Int)<zs.length:=by omega
    have hrm:r = .stop m:=by
     rw [List.drop_length] at hr
     cases hr
     rfl
    have hst:=fun σ=>hstop m σ hrm hi
    clear hr hb hcode hws hstop herr
    generalize (fun σ' => ∃ j : { p:Nat × Mm // p.1≤zs.length∧Inv l (b+p.1) p.2∧EntsM c l p.2 (zs.drop p.1) r },zs.length-j.1.1<zs.length-zs.length∧Weak (XX [] 38 [901,980,981,982,983,984,985,4,5]) σ' (GS c l (S2 (.slice (zs.map itC)) zs.length j.1.1) j.1.2))=PP
    clear hi
    generalize rd49=RD
    unfold GS S2 at *
    generalize gO c l m=O1 at *
    generalize gU m=U1 at *
    simp only [lh49,md49,c49,Tryz.f84,Option.getD_some,left,right,inBlock,inLoop]
    refine gg ?_
    exact hst _ (hwo _ _ (by simp [slotsLe,getS]))
 have key':∀ (S':List (Nat × V)) (U:List Nat),slotsLe (S2 (.slice (zs.map itC)) zs.length 0) S'→AWP (XX [] 38 [901,980,981,982,983,984,985,4,5]) (.block 2 (.loop (.seq (left (inLoop (inBlock (right md49)))) (.seq lh49 (.seq (.block 3 rd49) (right (right (right (inLoop (inBlock (right md49))))))))))) ⟨S',gO c l m,U⟩ Q:=fun S' U hS=>key _ (hw0 S' U hS)
 clear key hw0 hr hstop herr hi hb
 generalize (Code.block 2 (.loop (.seq (left (inLoop (inBlock (right md49)))) (.seq lh49 (.seq (.block 3 rd49) (right (right (right (inLoop (inBlock (right md49)))))))))) )=CC at *
 unfold GS S2 at *
 generalize gO c l m=O1 at *
 generalize gU m=U1 at *
 generalize zs.map itC=cc at *
 simp only [md49,c49,Tryz.f84,Option.getD_some,left,right]
 refine gg ?_
 exact key' _ _ (by simp [slotsLe,getS])
theorem go_args (c:List Ins) (l b:Nat) (hcode:Okc c) (zs:List It) (hl:b+zs.length+l≤200000) (hz:zs.length≤1000000) (hb:∀ a∈zs,Bd b a) (m m1 m':Mm) (x:It) (hr:RunsM c l mm0 (.stop m)) (he:EntsM c l m zs (.stop m1)) (hpop:m1.pop=some (x,m')) :
  AC Tryz.prog gl 84 [.loc 901 0,.pv (.slice (zs.map itC))] (gO0 c l) (.ret (.pv (.tuple [itP x,.int 0]))) [(901,mE c l m1.steps),(980,tE m1.tab.hits)]:=by
 refine go_start c l _ _ _ (by simp [V.names,namesOb,subL,mE,tE,Ob.names,namesL]) ?_
 refine ex_seq ?_
 refine loop1 c l b hcode (by omega) _ _ mm0 (inv0 l b) hr _ ?_ (fun _ _ h=>by cases h)
 intro m2 σ h hi hw
 obtain rfl:=(Rm.stop.inj h).symm
 refine AWP.weaken hw ?_
 refine ex_seq ?_
 refine mid_args c l b hcode zs hl hz hb _ _ hi he _ ?_ (fun _ _ h=>by cases h)
 intro m3 σ h hi hw
 obtain rfl:=(Rm.stop.inj h).symm
 refine AWP.weaken hw ?_
 exact tail49 c l (b+zs.length) (by omega) _ m' x hi hpop _ (by simp [slotsLe,getS])
theorem go_args_err (c:List Ins) (l b e:Nat) (hcode:Okc c) (zs:List It) (hl:b+zs.length+l≤200000) (hz:zs.length≤1000000) (hb:∀ a∈zs,Bd b a) (h:RunsM c l mm0 (.err e) ∨ ∃ m,RunsM c l mm0 (.stop m)∧EntsM c l m zs (.err e)) :
  AC Tryz.prog gl 84 [.loc 901 0,.pv (.slice (zs.map itC))] (gO0 c l) (.ret (.pv (.tuple [.nil,.int e]))) []:=by
 refine go_start c l _ _ _ (by simp [V.names,namesOb,subL]) ?_
 refine ex_seq ?_
 rcases h with hr|⟨m,hr,he⟩
 ·refine loop1 c l b hcode (by omega) _ _ mm0 (inv0 l b) hr _ (fun _ _ h=>by cases h) ?_
  intro e' σ he hst
  cases he
  exact rescue_err hst
 ·refine loop1 c l b hcode (by omega) _ _ mm0 (inv0 l b) hr _ ?_ (fun _ _ h=>by cases h)
  intro m2 σ h hi hw
  obtain rfl:=(Rm.stop.inj h).symm
  refine AWP.weaken hw ?_
  refine ex_seq ?_
  refine mid_args c l b hcode zs hl hz hb _ _ hi he _ (fun _ _ h=>by cases h) ?_
  intro e' σ he hst
  cases he
  exact rescue_err hst
def sOp (op a:Nat) (vs rs:List It):Option (List It × Bool):=match op with
 | 1=>match vs[a]? with
  | some x=>some (x::rs,true)
  | none=>none
 | 2=>some (.fn a vs::rs,decide (insideL vs<1024))
 | 4=>some (.num 0::rs,true)
 | 5=>match rs with
  | .num k::rs=>some (.num (k+1)::rs,true)
  | _=>none
 | 7=>some (.list []::rs,true)
 | 8=>match rs with
  | .list l :: .num h::rs=>some (.list (h::l)::rs,decide (l.length<1024))
  | _=>none
 | 10=>match rs with
  | b::a::rs=>some (.pair a b::rs,decide (2+a.more+b.more<1024))
  | _=>none
 | 11=>match rs with
  | .pair a _::rs=>some (a::rs,true)
  | _=>none
 | 12=>match rs with
  | .pair _ b::rs=>some (b::rs,true)
  | _=>none
 | 13=>some (.unit::rs,true)
 | _=>none
inductive Jb where
 | blk (p:Nat) (vs rs:List It)
 | cal (f a:It)
 | rds (f a:It) (r:Rd)
inductive BB (c:List Ins):Jb→It→Nat→Nat→Bool→Prop
 | ret {p vs x} : c[p]? = some (14,0)→BB c (.blk p vs [x]) x 1 0 true
 | op {p op a vs rs rs' z x k d z'} : c[p]? = some (op,a)→sOp op a vs rs=some (rs',z)→BB c (.blk (p+1) vs rs') x k d z'→BB c (.blk p vs rs) x (k+1) d (z && z')
 | app {p f a vs rs y k1 d1 z1 x k2 d2 z2} : c[p]? = some (3,0)→BB c (.cal f a) y k1 d1 z1→BB c (.blk (p+1) vs (y::rs)) x k2 d2 z2→BB c (.blk p vs (a::f::rs)) x (k1+k2+1) (max d1 d2) (z1 && z2)
 | rec0 {p vs rs b n q ws r x k d z} (list:Bool):c[p]? = some (bif list then 9 else 6,0)→rdOf (.fn q ws) b list n=some r→r.count=0→BB c (.blk (p+1) vs (b::rs)) x k d z→BB c (.blk p vs (n :: .fn q ws::b::rs)) x (k+1) d z
 | recS {p vs rs b n q ws r g a r' y k1 d1 z1 x k2 d2 z2} (list:Bool):c[p]? = some (bif list then 9 else 6,0)→rdOf (.fn q ws) b list n=some r→¬ r.count=0→r.begin=some (g,a,r')→BB c (.rds g a r') y k1 d1 z1→BB c (.blk (p+1) vs (y::rs)) x k2 d2 z2→BB c (.blk p vs (n :: .fn q ws::b::rs)) x (k1+k2+1) (max d1 d2) (z1 && z2)
 | cal {q ws a x k d z} : BB c (.blk q (a::ws) []) x k d z→BB c (.cal (.fn q ws) a) x k (d+1) z
 | last {f a r y k d z r'} : BB c (.cal f a) y k d z→r.returned y=some (none,r')→BB c (.rds f a r) y k d z
 | more {f a r y k1 d1 z1 f' a' r' x k2 d2 z2} : BB c (.cal f a) y k1 d1 z1→r.returned y=some (some (f',a'),r')→BB c (.rds f' a' r') x k2 d2 z2→BB c (.rds f a r) x (k1+k2) (max d1 d2) (z1 && z2)
theorem sOp_rec {list:Bool} {a:Nat} {vs rs:List It} : sOp (bif list then 9 else 6) a vs rs=none:=by cases list<;>rfl
theorem BB.det {c:List Ins} {j:Jb} {x:It} {k d:Nat} {z:Bool} (h:BB c j x k d z):∀ {x' k' d' z'},BB c j x' k' d' z'→x'=x∧k'=k∧d'=d∧z'=z:=by
 induction h with
 | ret h1 =>
  intro x' k' d' z' h'
  cases h' with
  | ret _=>exact⟨rfl,rfl,rfl,rfl⟩
  | op h2 h3 _=>rw [h1] at h2;cases h2;cases h3
 | op h1 h2 _ ih =>
  intro x' k' d' z' h'
  cases h' with
  | ret h3=>rw [h1] at h3;cases h3;cases h2
  | op h3 h4 h5 =>
   rw [h1] at h3;cases h3
   rw [h2] at h4;cases h4
   obtain⟨rfl,rfl,rfl,rfl⟩:=ih h5
   exact⟨rfl,rfl,rfl,rfl⟩
  | app h3 _ _=>rw [h1] at h3;cases h3;cases h2
  | rec0 list h3 _ _ _=>rw [h1] at h3;cases h3;rw [sOp_rec] at h2;cases h2
  | recS list h3 _ _ _ _ _=>rw [h1] at h3;cases h3;rw [sOp_rec] at h2;cases h2
 | app h1 _ _ i1 i2 =>
  intro x' k' d' z' h'
  cases h' with
  | op h3 h4 _=>rw [h1] at h3;cases h3;cases h4
  | app h3 h4 h5 =>
   obtain⟨rfl,rfl,rfl,rfl⟩:=i1 h4
   obtain⟨rfl,rfl,rfl,rfl⟩:=i2 h5
   exact⟨rfl,rfl,rfl,rfl⟩
  | rec0 list h3 _ _ _=>rw [h1] at h3;cases list<;>cases h3
  | recS list h3 _ _ _ _ _=>rw [h1] at h3;cases list<;>cases h3
 | @rec0 p vs rs b n q ws r x k d z list h1 h2 h0 _ ih =>
  intro x' k' d' z' h'
  have hl:∀ list':Bool,c[p]? = some (bif list' then 9 else 6,0)→list'=list:=by
   intro list' h
   rw [h1] at h
   cases list<;>cases list'<;>first|rfl|cases h
  cases h' with
  | op h3 h4 _=>rw [h1] at h3;cases h3;rw [sOp_rec] at h4;cases h4
  | app h3 _ _=>rw [h1] at h3;cases list<;>cases h3
  | rec0 list' h3 h4 _ h6 =>
   obtain⟨rfl,rfl,rfl,rfl⟩:=ih h6
   exact⟨rfl,rfl,rfl,rfl⟩
  | recS list' h3 h4 h5 _ _ _ =>
   obtain rfl:=hl _ h3
   rw [h2] at h4;cases h4
   exact absurd h0 h5
 | @recS p vs rs b n q ws r g a r' y k1 d1 z1 x k2 d2 z2 list h1 h2 h0 hb _ _ i1 i2 =>
  intro x' k' d' z' h'
  have hl:∀ list':Bool,c[p]? = some (bif list' then 9 else 6,0)→list'=list:=by
   intro list' h
   rw [h1] at h
   cases list<;>cases list'<;>first|rfl|cases h
  cases h' with
  | op h3 h4 _=>rw [h1] at h3;cases h3;rw [sOp_rec] at h4;cases h4
  | app h3 _ _=>rw [h1] at h3;cases list<;>cases h3
  | rec0 list' h3 h4 h5 _ =>
   obtain rfl:=hl _ h3
   rw [h2] at h4;cases h4
   exact absurd h5 h0
  | recS list' h3 h4 _ h5 h6 h7 =>
   obtain rfl:=hl _ h3
   rw [h2] at h4;cases h4
   rw [hb] at h5;cases h5
   obtain⟨rfl,rfl,rfl,rfl⟩:=i1 h6
   obtain⟨rfl,rfl,rfl,rfl⟩:=i2 h7
   exact⟨rfl,rfl,rfl,rfl⟩
 | cal _ ih =>
  intro x' k' d' z' h'
  cases h' with
  | cal h2 =>
   obtain⟨rfl,rfl,rfl,rfl⟩:=ih h2
   exact⟨rfl,rfl,rfl,rfl⟩
 | last _ h2 ih =>
  intro x' k' d' z' h'
  cases h' with
  | last h3 h4=>exact ih h3
  | more h3 h4 _ =>
   obtain⟨rfl,rfl,rfl,rfl⟩:=ih h3
   rw [h2] at h4;cases h4
 | more _ h2 _ i1 i2 =>
  intro x' k' d' z' h'
  cases h' with
  | last h3 h4 =>
   obtain⟨rfl,rfl,rfl,rfl⟩:=i1 h3
   rw [h2] at h4;cases h4
  | more h3 h4 h5 =>
   obtain⟨rfl,rfl,rfl,rfl⟩:=i1 h3
   rw [h2] at h4;cases h4
   obtain⟨rfl,rfl,rfl,rfl⟩:=i2 h5
   exact⟨rfl,rfl,rfl,rfl⟩
theorem BB.pos {c:List Ins} {j:Jb} {x:It} {k d:Nat} {z:Bool} (h:BB c j x k d z):1≤k:=by
 induction h<;>omega
open Go.Lg
inductive GosM (c:List Ins) (l:Nat):Mm→Mm→Prop
 | refl {m} : GosM c l m m
 | step {m m1 m2} : m.step c l (1000+m.steps)=some (.go m1)→GosM c l m1 m2→GosM c l m m2
theorem GosM.trans {c:List Ins} {l:Nat} {m m1 m2:Mm} (h:GosM c l m m1) (k:GosM c l m1 m2):GosM c l m m2:=by
 induction h with
 | refl=>exact k
 | step h _ ih=>exact .step h (ih k)
theorem GosM.runs {c:List Ins} {l:Nat} {m m1:Mm} {r:Rm} (h:GosM c l m m1) (k:RunsM c l m1 r):RunsM c l m r:=by
 induction h with
 | refl=>exact k
 | step h _ ih=>exact .go h (ih k)
def OutM (c:List Ins) (l:Nat) (fit:Prop) (m:Mm) (P:Mm→Prop):Prop:=(∃ e,RunsM c l m (.err e)∧(e=4∨e=5) ∧ ¬ fit) ∨ ∃ m',GosM c l m m'∧P m'
def OutRM (c:List Ins) (l:Nat) (fit:Prop) (r:Rm) (P:Mm→Prop):Prop:=match r with
 | .go m=>OutM c l fit m P
 | .stop _=>False
 | .err e=>(e=4∨e=5) ∧ ¬ fit
theorem OutM.bind {c:List Ins} {l:Nat} {fit fit':Prop} {m:Mm} {P Q:Mm→Prop} (h:OutM c l fit' m P) (hf:fit→fit') (k:∀ m',P m'→OutM c l fit m' Q):OutM c l fit m Q:=by
 rcases h with ⟨e,hr,he,hn⟩|⟨m',g,hp⟩
 ·exact .inl ⟨e,hr,he,fun h=>hn (hf h)⟩
 ·rcases k m' hp with ⟨e,hr,he⟩|⟨m2,g2,hq⟩
  ·exact .inl ⟨e,g.runs hr,he⟩
  ·exact .inr ⟨m2,g.trans g2,hq⟩
theorem OutM.now {c:List Ins} {l:Nat} {fit:Prop} {m:Mm} {P:Mm→Prop} (h:P m):OutM c l fit m P:=.inr ⟨m,.refl,h⟩
theorem OutRM.bind {c:List Ins} {l:Nat} {fit fit':Prop} {r:Rm} {P Q:Mm→Prop} (h:OutRM c l fit' r P) (hf:fit→fit') (k:∀ m',P m'→OutM c l fit m' Q):OutRM c l fit r Q:=by
 cases r with
 | go m=>exact OutM.bind h hf k
 | stop _=>exact h
 | err _=>exact⟨h.1,fun hh=>h.2 (hf hh)⟩
theorem OutM.step {c:List Ins} {l:Nat} {fit:Prop} {m:Mm} {P:Mm→Prop} {op a p:Nat} (hp:m.at_=((p:Nat):Int)) (hc:c[p]? = some (op,a)) {r:Rm} (he:Mm.exec { m with steps:=m.steps+1,at_:=((p+1:Nat):Int) } (1000+m.steps) op a=some r) (hs:fit→m.steps<l) (k:OutRM c l fit r P):OutM c l fit m P:=by
 by_cases hst:m.steps=l
 ·refine .inl ⟨5,.err ?_,.inr rfl,fun h=>by have:=hs h;omega⟩
  unfold Mm.step
  rw [if_pos hst]
 ·have hstep:m.step c l (1000+m.steps)=some r:=by
   unfold Mm.step
   rw [if_neg hst,if_neg (by omega),hp,Int.toNat_natCast,hc]
   rw [← he]
   congr 1
  cases r with
  | go m' =>
   rcases k with ⟨e,hr,he⟩|⟨m2,g,hq⟩
   ·exact .inl ⟨e,.go hstep hr,he⟩
   ·exact .inr ⟨m2,.step hstep g,hq⟩
  | stop _=>exact k.elim
  | err e=>exact .inl ⟨e,.err hstep,k⟩
theorem key_pre (l:Nums) (f a:It):l <+: (keyN l f a).2:=(numI_pre l f).trans (numI_pre _ a)
theorem key_known (l:Nums) (f a:It):keyN (keyN l f a).2 f a=((keyN l f a).1,(keyN l f a).2):=by
 have h1:=numI_known l f
 have h2:=numI_stay f (numI_pre (numI l f).2 a) (by rw [h1])
 have h3:=numI_known (numI l f).2 a
 simp only [keyN]
 rw [h2,h1]
 simp only
 rw [h3]
theorem key_parts {l:Nums} {f a:It} {k:List Int} (h:keyN l f a=(k,l)):(numI l f).2=l∧(numI l a).2=l∧k=[((numI l f).1:Int),((numI l a).1:Int)]:=by
 simp only [keyN,Prod.mk.injEq] at h
 obtain⟨h1,h2⟩:=h
 have h3:(numI l f).2=l:=by
  refine (pre_antisymm (numI_pre l f) ?_).symm
  have:=numI_pre (numI l f).2 a
  rw [h2] at this
  exact this
 rw [h3] at h1 h2
 exact⟨h3,h2,h1.symm⟩
theorem key_of {l:Nums} {f a:It} (h1:(numI l f).2=l) (h2:(numI l a).2=l):keyN l f a=([((numI l f).1:Int),((numI l a).1:Int)],l):=by
 simp only [keyN]
 rw [h1,h2]
theorem key_stay {l m:Nums} {f a:It} {k:List Int} (h:keyN l f a=(k,l)) (hp:l <+: m):keyN m f a=(k,m):=by
 obtain⟨h1,h2,h3⟩:=key_parts h
 have e1:=numI_stay f hp h1
 have e2:=numI_stay a hp h2
 rw [key_of (by rw [e1]) (by rw [e2]),e1,e2,h3]
theorem key_inj {l:Nums} {f a f' a':It} {k:List Int} (h:keyN l f a=(k,l)) (h':keyN l f' a'=(k,l)):f=f'∧a=a':=by
 obtain⟨h1,h2,h3⟩:=key_parts h
 obtain⟨g1,g2,g3⟩:=key_parts h'
 rw [h3] at g3
 simp only [List.cons.injEq,and_true] at g3
 exact⟨numI_inj f f' h1 g1 (by omega),numI_inj a a' h2 g2 (by omega)⟩
theorem rGet_set (k:List Int) (x:It):∀ (l:List (List Int × It)) (k':List Int),rGet (rSet l k x) k'=if k'=k then some x else rGet l k'
 | [],k'=>by simp only [rSet,rGet]
 | (q,y)::l,k'=>by
  simp only [rSet]
  by_cases h:k=q
  ·subst h
   rw [if_pos rfl]
   simp only [rGet]
   split
   ·rfl
   ·rfl
  ·rw [if_neg h]
   simp only [rGet]
   rw [rGet_set k x l k']
   by_cases h1:k'=q
   ·subst h1
    rw [if_pos rfl,if_neg (fun e=>h e.symm),if_pos rfl]
   ·rw [if_neg h1,if_neg h1]
theorem rSet_len (k:List Int) (x:It):∀ (l:List (List Int × It)),l.length≤(rSet l k x).length∧(rSet l k x).length≤l.length+1
 | []=>by simp [rSet]
 | (q,y)::l=>by
  simp only [rSet]
  split
  ·simp
  ·have:=rSet_len k x l
   simp only [List.length_cons]
   omega
def TI (c:List Ins) (T:Tab):Prop:=∀ k y,rGet T.res k=some y→∃ F A kk dd zz,keyN T.nums F A=(k,T.nums)∧BB c (.cal F A) y kk dd zz
def Has (T:Tab) (f a:It):Prop:=∃ k y,keyN T.nums f a=(k,T.nums)∧rGet T.res k=some y
structure Grow (T T':Tab):Prop where
 nums:T.nums <+: T'.nums
 hits:T.hits≤T'.hits
 res:∀ k y,rGet T.res k=some y→∃ y',rGet T'.res k=some y'
theorem Grow.refl (T:Tab):Grow T T:=⟨List.prefix_refl _,Nat.le_refl _,fun _ y h=>⟨y,h⟩⟩
theorem Grow.trans {T T1 T2:Tab} (h:Grow T T1) (k:Grow T1 T2):Grow T T2 :=
 ⟨h.nums.trans k.nums,Nat.le_trans h.hits k.hits,fun q y hy=>by obtain⟨y',h'⟩:=h.res q y hy;exact k.res q y' h'⟩
theorem TI.nums {c:List Ins} {T:Tab} (h:TI c T) {l:Nums} (hp:T.nums <+: l) (n:Nat):TI c ⟨l,T.res,n⟩:=by
 intro k y hy
 obtain⟨F,A,kk,dd,zz,h1,h2⟩:=h k y hy
 exact⟨F,A,kk,dd,zz,key_stay h1 hp,h2⟩
theorem TI.get {c:List Ins} {T:Tab} (h:TI c T) {f a y:It} (hy:T.get f a=some y):∃ k d z,BB c (.cal f a) y k d z:=by
 obtain⟨F,A,kk,dd,zz,h1,h2⟩:=h _ _ hy
 obtain⟨rfl,rfl⟩:=key_inj (key_stay h1 (key_pre T.nums f a)) (key_known T.nums f a)
 exact⟨_,_,_,h2⟩
theorem TI.store {c:List Ins} {T:Tab} (h:TI c T) {f a x:It} {k d:Nat} {z:Bool} (hb:BB c (.cal f a) x k d z):TI c (T.store f a x):=by
 unfold Tab.store
 split
 ·intro q y hy
  simp only at hy ⊢
  rw [rGet_set] at hy
  split at hy
  ·rename_i e
   subst e
   cases hy
   exact⟨f,a,k,d,z,key_known T.nums f a,hb⟩
  ·obtain⟨F,A,kk,dd,zz,h1,h2⟩:=h q y hy
   exact⟨F,A,kk,dd,zz,key_stay h1 (key_pre T.nums f a),h2⟩
 ·exact h
theorem grow_hit (T:Tab) (f a:It):Grow T (T.hit f a):=⟨key_pre _ _ _,Nat.le_succ _,fun _ y h=>⟨y,h⟩⟩
theorem grow_miss (T:Tab) (f a:It):Grow T (T.miss f a):=⟨key_pre _ _ _,Nat.le_refl _,fun _ y h=>⟨y,h⟩⟩
theorem grow_store (T:Tab) (f a x:It):Grow T (T.store f a x)∧(T.store f a x).hits=T.hits∧(T.store f a x).res.length≤T.res.length+1∧(Has (T.store f a x) f a∨256≤(T.store f a x).res.length):=by
 unfold Tab.store
 split
 ·refine⟨⟨key_pre _ _ _,Nat.le_refl _,fun k y h => ?_⟩,rfl,(rSet_len _ _ _).2,.inl ⟨_,x,key_known T.nums f a,?_⟩⟩
  ·simp only
   rw [rGet_set]
   split
   ·exact⟨_,rfl⟩
   ·exact⟨y,h⟩
  ·simp only
   rw [rGet_set,if_pos rfl]
 ·exact⟨Grow.refl T,rfl,Nat.le_succ _,.inr (by omega)⟩
structure Gm (c:List Ins) (k:Nat) (m m':Mm):Prop where
 lo:m.steps≤m'.steps
 hi:m'.steps≤m.steps+k
 eq:m'.tab.hits=m.tab.hits→m'.steps=m.steps+k
 ti:TI c m'.tab
 grow:Grow m.tab m'.tab
 few:m'.tab.res.length+m.steps≤m.tab.res.length+m'.steps
theorem Gm.trans {c:List Ins} {k k':Nat} {m m1 m2:Mm} (h:Gm c k m m1) (h':Gm c k' m1 m2):Gm c (k+k') m m2:=by
 have a1:=h.lo
 have a2:=h.hi
 have a3:=h.grow.hits
 have a4:=h.few
 have b1:=h'.lo
 have b2:=h'.hi
 have b3:=h'.grow.hits
 have b4:=h'.few
 refine⟨by omega,by omega,fun e => ?_,h'.ti,h.grow.trans h'.grow,by omega⟩
 have c1:=h.eq (by omega)
 have c2:=h'.eq (by omega)
 omega
theorem Gm.none {c:List Ins} {m m':Mm} (h:TI c m.tab) (hs:m'.steps=m.steps) (ht:m'.tab=m.tab):Gm c 0 m m' :=
 ⟨by omega,by omega,fun _=>by omega,by rw [ht];exact h,by rw [ht];exact Grow.refl _,by rw [ht,hs];exact Nat.le_refl _⟩
theorem Gm.one {c:List Ins} {m m':Mm} (h:TI c m.tab) (hs:m'.steps=m.steps+1) (ht:m'.tab=m.tab):Gm c 1 m m' :=
 ⟨by omega,by omega,fun _=>by omega,by rw [ht];exact h,by rw [ht];exact Grow.refl _,by rw [ht,hs];omega⟩
theorem Gm.cast {c:List Ins} {k k':Nat} {m m':Mm} (h:Gm c k m m') (e:k=k'):Gm c k' m m':=e ▸ h
theorem popM_eq {m:Mm} {s:List It} {x:It} (h:m.stack=s++[x]):m.pop=some (x,{ m with stack:=s,sg:=x::m.sg }):=by
 simp [Mm.pop,h]
theorem popFM_eq {m:Mm} {s:List Fr} {x:Fr} (h:m.frames=s++[x]):m.popF=some (x,{ m with frames:=s,fg:=x::m.fg,at_:=x.at_,vars:=x.vars }):=by
 simp [Mm.popF,h]
theorem exec_s {op a:Nat} {vs rs rs':List It} {z:Bool} (h:sOp op a vs rs=some (rs',z)) (m:Mm) (lo:List It) (n:Nat) (hv:m.vars=vs) (hs:m.stack=lo++rs.reverse) :
  ∃ r,m.exec n op a=some r∧((z=true ∧ ∃ m',r = .go m'∧m'.stack=lo++rs'.reverse∧m'.at_=m.at_∧m'.vars=m.vars∧m'.frames=m.frames∧m'.tab=m.tab∧m'.steps=m.steps)∨(z=false∧r = .err 4)):=by
 have push:∀ (m0:Mm) (x:It) (rs0:List It),m0.stack=lo++rs0.reverse→m0.at_=m.at_→m0.vars=m.vars→m0.frames=m.frames→m0.tab=m.tab→m0.steps=m.steps→∃ m',Rm.go (m0.push x) = .go m'∧m'.stack=lo++(x::rs0).reverse∧m'.at_=m.at_∧m'.vars=m.vars∧m'.frames=m.frames∧m'.tab=m.tab∧m'.steps=m.steps:=by
  intro m0 x rs0 h1 h2 h3 h4 h5 h6
  exact⟨_,rfl,by simp only [Mm.push,h1,List.reverse_cons,List.append_assoc],h2,h3,h4,h5,h6⟩
 subst hv
 unfold sOp at h
 split at h
 ·split at h
  ·rename_i x hx
   cases h
   refine⟨.go (m.push x),?_,.inl ⟨rfl,push m x rs hs rfl rfl rfl rfl rfl⟩⟩
   simp only [Mm.exec,hx]
  ·cases h
 ·cases h
  by_cases hz:insideL m.vars<1024
  ·have he:m.exec n 2 a=some (.go (m.push (.fn a m.vars))):=by
    simp only [Mm.exec,madeM]
    rw [if_neg (by show ¬ 1024≤insideL m.vars;omega)]
   exact⟨_,he,.inl ⟨decide_eq_true hz,push m _ rs hs rfl rfl rfl rfl rfl⟩⟩
  ·have he:m.exec n 2 a=some (.err 4):=by
    simp only [Mm.exec,madeM]
    rw [if_pos (by show 1024≤insideL m.vars;omega)]
   exact⟨_,he,.inr ⟨decide_eq_false hz,rfl⟩⟩
 ·cases h
  exact⟨_,rfl,.inl ⟨rfl,push m _ rs hs rfl rfl rfl rfl rfl⟩⟩
 ·split at h
  ·rename_i k rs0
   cases h
   have hp:=popM_eq (m:=m) (s:=lo++rs0.reverse) (x:=.num k) (by simpa using hs)
   have he:m.exec n 5 a=some (.go (Mm.push { m with stack:=lo++rs0.reverse,sg:=.num k::m.sg } (.num (k+1)))):=by simp only [Mm.exec,hp]
   exact⟨_,he,.inl ⟨rfl,push _ _ rs0 rfl rfl rfl rfl rfl rfl⟩⟩
  ·cases h
 ·cases h
  exact⟨_,rfl,.inl ⟨rfl,push m _ rs hs rfl rfl rfl rfl rfl⟩⟩
 ·split at h
  ·rename_i l k rs0
   cases h
   have hp:=popM_eq (m:=m) (s:=lo++rs0.reverse++[.num k]) (x:=.list l) (by simpa using hs)
   have hp2:=popM_eq (m:={ m with stack:=lo++rs0.reverse++[.num k],sg:=.list l::m.sg }) (s:=lo++rs0.reverse) (x:=.num k) rfl
   by_cases hz:l.length<1024
   ·have he:m.exec n 8 a=some (.go (Mm.push { m with stack:=lo++rs0.reverse,sg:=.num k :: .list l::m.sg } (.list (k::l)))):=by
     simp only [Mm.exec,hp,hp2]
     rw [if_neg (by omega)]
    exact⟨_,he,.inl ⟨decide_eq_true hz,push _ _ rs0 rfl rfl rfl rfl rfl rfl⟩⟩
   ·have he:m.exec n 8 a=some (.err 4):=by
     simp only [Mm.exec,hp,hp2]
     rw [if_pos (by omega)]
    exact⟨_,he,.inr ⟨decide_eq_false hz,rfl⟩⟩
  ·cases h
 ·split at h
  ·rename_i b y rs0
   cases h
   have hp:=popM_eq (m:=m) (s:=lo++rs0.reverse++[y]) (x:=b) (by simpa using hs)
   have hp2:=popM_eq (m:={ m with stack:=lo++rs0.reverse++[y],sg:=b::m.sg }) (s:=lo++rs0.reverse) (x:=y) rfl
   by_cases hz:2+y.more+b.more<1024
   ·have he:m.exec n 10 a=some (.go (Mm.push { m with stack:=lo++rs0.reverse,sg:=y::b::m.sg } (.pair y b))):=by
     simp only [Mm.exec,hp,hp2,madeM]
     rw [if_neg (by show ¬ 1024≤2+y.more+b.more;omega)]
    exact⟨_,he,.inl ⟨decide_eq_true hz,push _ _ rs0 rfl rfl rfl rfl rfl rfl⟩⟩
   ·have he:m.exec n 10 a=some (.err 4):=by
     simp only [Mm.exec,hp,hp2,madeM]
     rw [if_pos (by show 1024≤2+y.more+b.more;omega)]
    exact⟨_,he,.inr ⟨decide_eq_false hz,rfl⟩⟩
  ·cases h
 ·split at h
  ·rename_i x y rs0
   cases h
   have hp:=popM_eq (m:=m) (s:=lo++rs0.reverse) (x:=.pair x y) (by simpa using hs)
   have he:m.exec n 11 a=some (.go (Mm.push { m with stack:=lo++rs0.reverse,sg:=.pair x y::m.sg } x)):=by simp only [Mm.exec,hp]
   exact⟨_,he,.inl ⟨rfl,push _ _ rs0 rfl rfl rfl rfl rfl rfl⟩⟩
  ·cases h
 ·split at h
  ·rename_i x y rs0
   cases h
   have hp:=popM_eq (m:=m) (s:=lo++rs0.reverse) (x:=.pair x y) (by simpa using hs)
   have he:m.exec n 12 a=some (.go (Mm.push { m with stack:=lo++rs0.reverse,sg:=.pair x y::m.sg } y)):=by simp only [Mm.exec,hp]
   exact⟨_,he,.inl ⟨rfl,push _ _ rs0 rfl rfl rfl rfl rfl rfl⟩⟩
  ·cases h
 ·cases h
  exact⟨_,rfl,.inl ⟨rfl,push m _ rs hs rfl rfl rfl rfl rfl⟩⟩
 ·cases h
def lookM (m:Mm) (f a:It):Option It:=if plainC f a=true then m.tab.get f a else none
def missM (m:Mm) (f a:It):Mm:=if plainC f a=true then { m with tab:=m.tab.miss f a } else m
def hitM (m:Mm) (f a:It):Mm:={ m with tab:=m.tab.hit f a }
theorem lookM_ti {c:List Ins} {m:Mm} {f a y x:It} {k d:Nat} {z:Bool} (h:lookM m f a=some y) (ht:TI c m.tab) (hb:BB c (.cal f a) x k d z):y=x:=by
 unfold lookM at h
 split at h
 ·obtain⟨k',d',z',h'⟩:=ht.get h
  exact (hb.det h').1
 ·cases h
theorem enterN_miss {m:Mm} {q:Nat} {ws:List It} {a:It} (h:lookM m (.fn q ws) a=none) (j:Nat) (rd:Option (Nat × Rd)):Mm.enterN (j+1) m (.fn q ws) a rd=some ((missM m (.fn q ws) a).into (.fn q ws) a q ws rd):=by
 unfold lookM at h
 simp only [Mm.enterN,missM]
 split at h
 ·rename_i hp
  rw [if_pos hp,if_pos hp,h]
 ·rename_i hp
  rw [if_neg hp,if_neg hp]
theorem enterN_hit0 {m:Mm} {q:Nat} {ws:List It} {a y:It} (h:lookM m (.fn q ws) a=some y) (j:Nat):Mm.enterN (j+1) m (.fn q ws) a none=some (.go ((hitM m (.fn q ws) a).push y)):=by
 unfold lookM at h
 simp only [Mm.enterN,hitM]
 split at h
 ·rename_i hp
  rw [if_pos hp,h]
 ·cases h
theorem enterN_hit1 {m:Mm} {q:Nat} {ws:List It} {a y:It} (h:lookM m (.fn q ws) a=some y) (j n:Nat) (r:Rd):Mm.enterN (j+1) m (.fn q ws) a (some (n,r))=(match r.returned y with
   | none=>none
   | some (none,_)=>some (.go ((hitM m (.fn q ws) a).push y))
   | some (some (f',a'),r')=>Mm.enterN j (hitM m (.fn q ws) a) f' a' (some (n,r'))):=by
 unfold lookM at h
 simp only [Mm.enterN,hitM]
 split at h
 ·rename_i hp
  rw [if_pos hp,h]
  rfl
 ·cases h
theorem Gm.hit {c:List Ins} {m:Mm} (h:TI c m.tab) (k:Nat) (f a:It):Gm c k m (hitM m f a) :=
 ⟨Nat.le_refl _,Nat.le_add_right _ _,fun e=>by simp only [hitM,Tab.hit] at e;omega,h.nums (key_pre _ _ _) _,grow_hit _ _ _,Nat.le_refl _⟩
theorem Gm.miss {c:List Ins} {m:Mm} (h:TI c m.tab) (f a:It):Gm c 0 m (missM m f a):=by
 unfold missM
 split
 ·exact⟨Nat.le_refl _,Nat.le_refl _,fun _=>rfl,h.nums (key_pre _ _ _) _,grow_miss _ _ _,Nat.le_refl _⟩
 ·exact Gm.none h rfl rfl
theorem miss_same (m:Mm) (f a:It):(missM m f a).steps=m.steps∧(missM m f a).stack=m.stack∧(missM m f a).frames=m.frames∧(missM m f a).at_=m.at_∧(missM m f a).vars=m.vars:=by
 unfold missM
 split<;>exact⟨rfl,rfl,rfl,rfl,rfl⟩
def outF (m:Mm) (s:List It) (x:It) (fs:List Fr) (fr:Fr):Mm:=Mm.keep { m with stack:=s,sg:=x::m.sg,frames:=fs,fg:=fr::m.fg,at_:=fr.at_,vars:=fr.vars } fr.f fr.a x
theorem outF_same (m:Mm) (s:List It) (x:It) (fs:List Fr) (fr:Fr):(outF m s x fs fr).steps=m.steps∧(outF m s x fs fr).stack=s∧(outF m s x fs fr).frames=fs∧(outF m s x fs fr).at_=fr.at_∧(outF m s x fs fr).vars=fr.vars:=by
 unfold outF Mm.keep
 split<;>exact⟨rfl,rfl,rfl,rfl,rfl⟩
def afterM (m2:Mm) (x:It):Option (Nat × Rd)→Option Rm
 | none=>some (stopIfM (m2.push x))
 | some (n,r)=>match r.returned x with
  | none=>none
  | some (none,_)=>some (stopIfM (m2.push x))
  | some (some (f,a),r')=>m2.enter f a (some (n,r'))
theorem leave_eq {m:Mm} {s:List It} {x:It} {fs:List Fr} {fr:Fr} (hs:m.stack=s++[x]) (hf:m.frames=fs++[fr]):m.leave=afterM (outF m s x fs fr) x fr.rd:=by
 have h2:=popFM_eq (m:={ m with stack:=s,sg:=x::m.sg }) hf
 unfold Mm.leave
 rw [popM_eq hs]
 simp only
 rw [h2]
 simp only [afterM]
 cases fr.rd with
 | none=>rfl
 | some q=>rfl
theorem Gm.out {c:List Ins} {m:Mm} {s:List It} {x:It} {fs:List Fr} {fr:Fr} {k d:Nat} {z:Bool} (h:TI c m.tab) (hb:BB c (.cal fr.f fr.a) x k d z) (p:Int) :
  Gm c 1 m (outF { m with steps:=m.steps+1,at_:=p } s x fs fr)∧(plainC fr.f fr.a=true→Has (outF { m with steps:=m.steps+1,at_:=p } s x fs fr).tab fr.f fr.a∨256≤(outF { m with steps:=m.steps+1,at_:=p } s x fs fr).tab.res.length):=by
 unfold outF Mm.keep
 split
 ·obtain⟨g1,g2,g3,g4⟩:=grow_store m.tab fr.f fr.a x
  refine⟨⟨Nat.le_succ _,Nat.le_refl _,fun _=>rfl,h.store hb,g1,?_⟩,fun _=>g4⟩
  simp only
  omega
 ·rename_i hp
  exact⟨Gm.one h rfl rfl,fun h=>absurd h hp⟩
end Go.Proofs.YtodjpfpmhjdhbaaGreatDoor
