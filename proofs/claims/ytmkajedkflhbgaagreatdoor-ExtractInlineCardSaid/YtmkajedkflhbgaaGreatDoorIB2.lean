/- The engine that computes runs; no conditions. -/
import Derived.Test.YtmkajedkflhbgaaGreatDoorIB1
set_option linter.all false
namespace Go.Lg
theorem cR:∀ (l:List (Option Nat × Eff)) (k:Nat) (s:St),UA (λ _=>true) k l s=UA (λ _=>true) 0 l s
 | [],k,s=>rfl
 | p::r,k,s=>by simp only [UA,if_true];rw [cR r (k+1),cR r (0+1)]
theorem LV {s:IS} {σ:St} (hR:Rel s σ) (all:List Oper) (j:Nat):sV all s j=gv all σ j:=by
 unfold sV gv
 cases all[j]? with
 | none=>rfl
 | some o =>
  simp only
  cases o.dst with
  | none=>rfl
  | some d=>simp only [hR.sl];all_goals (cases s.sl.get d<;>rfl)
section
variable {ev:jB} {P:Program} {call:Call}
theorem Na {s:IS} {σ:St} (hR:Rel s σ) (d:Option Nat):Rel ⟨PD s.sl d LM,s.ob,s.nx,s.dt⟩ (σ.eff d DF) :=
 ⟨λ t=>IV hR d LM t,λ n=>hR.ob n,λ n hn=>hR.us n (by simpa [St.eff,DF] using hn)⟩
def TcsOK (es:List Eff) (tcs:List Tc):Prop:=tcs.length=es.length /\ ∀ (i:Nat) (e:Eff) (tc:Tc),es[i]? = some e->tcs[i]? = some tc->pI e tc
theorem TcsOK.cons {e:Eff} {tc:Tc} {es:List Eff} {tcs:List Tc} (h:pI e tc) (h':TcsOK es tcs):TcsOK (e::es) (tc::tcs):=by
 refine⟨by simp [h'.1],λ i e' tc' h1 h2 => ?_⟩
 cases i with
 | zero=>simp at h1 h2;subst h1 h2;exact h
 | succ i=>exact h'.2 i e' tc' (by simpa using h1) (by simpa using h2)
theorem iR {X:NA} {C:Ctx} (hT:xB X.P X.T) (hg:GOK X.gl C.E0.H) (hnt:C.nt=X.nt) {ops:List Oper} {Q:Exit->Act->World->Prop} : ∀ (l:List Oper) (es:List Eff) (σ:St) (E:Env) (a:Act) (w:World),jF X ops l es σ->Ga C E σ a w ->
  (∀ E a w,Ga C E (UA (λ _=>true) 0 (JB l es) σ) a w->Q .normal a w)->wpList X.P ops.toArray Q l a w
 | [],[],σ,E,a,w,_,hG,hK=>hK E a w hG
 | [],_::_,_,_,_,_,h,_,_=>by simp [jF] at h
 | o::rest,[],_,_,_,_,h,_,_=>by simp [jF] at h
 | o::rest,e::es,σ,E,a,w,h,hG,hK=>by
  simp only [jF] at h;obtain⟨⟨hd,h1⟩,h2⟩:=h;have hd':∀ d,o.dst=some d->d<C.nt:=by
   intro d e;rw [e] at hd;rw [hnt];exact hd
  have hK':∀ E a w,Ga C E (UA (λ _=>true) 0 (JB rest es) (σ.eff o.dst e)) a w->Q .normal a w:=by
   intro E a w hG;refine hK E a w ?_;simp only [JB,List.map_cons,List.zip_cons_cons,UA,if_true];rw [cR];exact hG
  have hrun:OpW X o σ e->o.wp X.P a w (wpList X.P ops.toArray Q rest) Q:=λ hw=>hw.sound hT hg hG hd' (λ E' a' w' hG'=>iR hT hg hnt rest es _ E' a' w' h2 hG' hK')
  unfold wpList;rcases h1 with ⟨hgu,hw⟩|⟨j,want,b,hgu,hb,⟨hbw,hw⟩|⟨hbw,rfl⟩⟩|⟨j,want,hgu,hb,rfl⟩
  ·rw [if_pos (by simp [Region.wanted,hgu])];exact .inl (hrun hw)
  ·have hy:=PU hG hb;rw [if_pos (by simp [Region.wanted,hgu,hy,hbw])];exact .inl (hrun hw)
  ·have hy:=PU hG hb;rw [if_neg (by simp [Region.wanted,hgu,hy,hbw])];exact iR hT hg hnt rest es _ E _ w h2 (SQ hG hd') hK'
  ·have hy:=GZ hG hb;rw [if_neg (by simp [Region.wanted,hgu,hy])];exact iR hT hg hnt rest es _ E _ w h2 (SQ hG hd') hK'
theorem AWP.seqR {X:NA} {id:Nat} {ops:Array Oper} {es:List Eff} {σ:St} {Q:AB->St->Prop} (h:jF X ops.toList ops.toList es σ) (hq:Q .normal (UA (λ _=>true) 0 (JB ops.toList es) σ)):AWP X (.region id ops false) σ Q:=by
 intro C E a w hC hG;refine wp_region_list ?_;have:=iR X.ok hC.glob hC.nt (Q:=BM C Q) ops.toList es σ E a w h hG (λ E a w hG=>⟨E,_,.normal,hG,rfl,hq⟩);simpa using this
theorem AWP.anyR {X:NA} {id:Nat} {ops:Array Oper} {es:List Eff} {σ:St} {Q:AB->St->Prop} (hl:es.length=ops.toList.length) (ht:jF X ops.toList ops.toList es σ) (hc:rO ops.toList es=true) (hq:Q .normal (UA (λ _=>true) 0 (JB ops.toList es) σ)):AWP X (.region id ops true) σ Q:=by
 intro C E a w hC hG;refine wp_region_any X.mix ?_;have hG':Ga C E σ a { w with drawn:=w.drawn+1 }:=hG.drew;have hf:∀ (r:List (Option Nat × Eff)) (k:Nat) (s:St),UA (λ _=>false) k r s=s:=by
  intro r;induction r with
  | nil=>intro k s;rfl
  | cons p r ih=>intro k s;simp [UA,ih]
 have hrep:∀ i,(Array.replicate ops.size false).getD i false=false:=by
  intro i;rw [Array.getD_eq_getD_getElem?,Array.getElem?_replicate];split<;>rfl
 have:=sj (X:=X) (C:=C) (Q:=BM C Q) X.ok hC.glob hC.nt hl ht hc (λ E a w hG=>⟨E,_,.normal,hG,rfl,hq⟩) ops.size (Array.replicate ops.size false) E a _ (by simp) (by
  simp) (by
  intro j hj i _;rw [hrep] at hj;cases hj) (hG'.of_ext (by
   intro t;rw [xM (S':=λ _=>false) t _ 0 σ σ (λ i d e _ _=>hrep _) rfl,hf]) (by
   intro n;rw [AM (S':=λ _=>false) n _ 0 σ σ (λ i d e _ _=>hrep _) rfl,hf]) (by
   intro n hn;rw [tJ];exact .inl hn))
 simpa using this
theorem MV:∀ {tr:List Tc},MM tr=true->∀ t∈tr,t.wn=[]
 | [],_,_,h=>by cases h
 | t::r,h,u,hu=>by
  unfold MM at h;split at h
  ·rename_i e;rcases List.mem_cons.1 hu with rfl|hu
   ·exact e
   ·exact MV h u hu
  ·cases h
theorem Hk {ops:Array Oper} {o1 o2:Oper} {e1 e2:Eff} {t1 t2:Tc} (h1:pI e1 t1) (h2:pI e2 t2) (ha:WO t1 t2=true) (hc:zD ops o1 e1 o2 e2=true):tV ops o1 o2=true:=by
 unfold WO at ha;rw [Bool.and_eq_true,List.all_eq_true,List.all_eq_true] at ha;have hno:∀ (l:List Nat) (n:Nat),(!oC l n)=true->n ∉ l:=λ l n h hm=>by rw [(EF l n).2 hm] at h;cases h
 have k1:(e1.wn.any λ n=>e2.rd.contains n || e2.wn.contains n)=false:=by
  rw [List.any_eq_false];intro n hn hq;have h3:=ha.1 n (h1.1 n hn);rw [Bool.and_eq_true] at h3;simp only [Bool.or_eq_true,List.contains_iff_mem] at hq;rcases hq with hq|hq
  ·exact hno _ _ h3.1 (h2.2 n hq)
  ·exact hno _ _ h3.2 (h2.1 n hq)
 have k2:(e2.wn.any λ n=>e1.rd.contains n)=false:=by
  rw [List.any_eq_false];intro n hn hq;simp only [List.contains_iff_mem] at hq;exact hno _ _ (ha.2 n (h2.1 n hn)) (h1.2 n hq)
 unfold zD at hc;rw [k1,k2,Bool.or_false,Bool.or_false] at hc;unfold tV;cases h1:o1.dst<;>cases h2:o2.dst<;>simp_all
theorem Ik {ops:List Oper} {es:List Eff} {tcs:List Tc} (hs:aV ops=true) (hq:MM tcs.reverse=true\/rR ops tcs=true) (hl:es.length=ops.length) (ht:TcsOK es tcs):rO ops es=true:=by
 unfold rO;unfold aV at hs;rw [List.all_eq_true] at hs ⊢;intro j hj;have hjl:j<ops.length:=by simpa using hj
 have hsj:=hs j hj;have hje:j<es.length:=by omega
 have hjt:j<tcs.length:=by rw [ht.1];omega
 rw [List.getElem?_eq_getElem hjl] at hsj ⊢;rw [List.getElem?_eq_getElem hje];simp only [Bool.and_eq_true,List.all_eq_true] at hsj ⊢;refine⟨hsj.1,λ i hi => ?_⟩;have hij:i<j:=by simpa using hi
 have hsi:=hsj.2 i hi;rw [List.getElem?_eq_getElem (show i<ops.length by omega)] at hsi ⊢;rw [List.getElem?_eq_getElem (show i<es.length by omega)];simp only [Bool.or_eq_true] at hsi ⊢;by_cases hc:zD ops.toArray ops[i] es[i] ops[j] es[j]=true
 ·right;have hti:=ht.2 i _ _ (List.getElem?_eq_getElem (show i<es.length by omega)) (List.getElem?_eq_getElem (show i<tcs.length by omega));have htj:=ht.2 j _ _ (List.getElem?_eq_getElem hje) (List.getElem?_eq_getElem hjt);have hap:WO tcs[i] tcs[j]=true->((ZD ops []).getD j 0).testBit i=true:=by
   intro ha;have:=Hk hti htj ha hc;rcases hsi with h|h
   ·rw [this] at h;cases h
   ·exact h
  rcases hq with hq|hq
  ·refine hap ?_;have w1:=MV hq tcs[i] (by simp);have w2:=MV hq tcs[j] (by simp);simp [WO,w1,w2]
  ·unfold rR at hq;rw [List.all_eq_true] at hq;have hqj:=hq j hj;rw [List.getElem?_eq_getElem hjt] at hqj;simp only [List.all_eq_true] at hqj;have hqi:=hqj i hi;rw [List.getElem?_eq_getElem (show i<tcs.length by omega)] at hqi;simp only [Bool.or_eq_true] at hqi;rcases hqi with h|h
   ·exact hap h
   ·exact h
 ·left;simpa using hc
theorem Jk {bs:Nat} {sub:Tr Ob} (l:List Nat) {s:IS} (hI:Inv bs sub s):Inv bs sub (XO bs l s):=by
 unfold XO;cases Nat.beq s.nx bs
 ·exact oV l hI
 ·exact hI
theorem Oa {bs:Nat} (l:List Nat) {s:IS} {σ:St} (hR:Rel s σ):∃ σ',Wk σ σ'/\Rel (XO bs l s) σ':=by
 unfold XO;cases Nat.beq s.nx bs
 ·exact BV l hR
 ·exact⟨σ,Wk.refl σ,hR⟩
end
end Go.Lg
