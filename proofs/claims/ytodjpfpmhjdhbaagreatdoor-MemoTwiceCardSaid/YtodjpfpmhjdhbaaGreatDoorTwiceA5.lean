/- The logic of contracts; no conditions. -/
import Derived.Test.YtodjpfpmhjdhbaaGreatDoorTwiceA4
set_option linter.all false
namespace Go.Lg
section
variable {P:Program} {C:Ctx} {E:Env} {σ:St} {a:Act} {w:World} {gl:Nat→Option (List PV)} {o:Oper} {T:Nat→Option TI} {note:Note}
theorem sound_newArr (h:Ga C E σ a w) (hd:∀ d,o.dst=some d→d<C.nt) {n sz ty:Nat} {cd:Prop} (hn:n ∉ σ.used) (ho:o.op = .move (.const (.slice none 0 0))∨o.op = .assign (.const (.slice none 0 0))) :
  Sound P C E σ a w o ⟨cd,True,.arr n 0 0,some (n,.arr 0 sz ty []),true⟩:=by
 let E':Env:={ H:=E.H,g:=fun m=>if m=n then .slice none 0 0 else E.g m,ver:=fun m=>if m=n then 0 else E.ver m,sz:=fun m=>if m=n then sz else E.sz m }
 have hg':E'.g n = .slice none 0 0:=by simp [E']
 have hv':E'.ver n=0:=by simp [E']
 have hs':E'.sz n=sz:=by simp [E']
 have hE:∀ m,m≠n→E'.g m=E.g m∧E'.ver m=E.ver m∧E'.sz m=E.sz m:=fun m hm=>⟨by simp [E',hm],by simp [E',hm],by simp [E',hm]⟩
 refine⟨.slice none 0 0,w,E',.inl ?_,?_,trivial⟩
 ·rcases ho with ho|ho<;>simp [execOp,ho,Act.eval]
 refine h.change (E':=E') n (some (.arr 0 sz ty [])) (setO σ.objs n (.arr 0 sz ty [])) (n::σ.used) o.dst (.arr n 0 0) _ (fun m=>getO_setO _ _ _ _) (Hle.refl _) hE (fun hk=>absurd hk hn) (fun hk=>absurd hk hn)
  (Nat.le_refl _) ⟨rfl,rfl,rfl⟩ (fun b hb _=>⟨rfl,rfl⟩) h.heap ?_ ?_ (fun m hm=>by simp [hm]) ?_ ?_ hd
 ·intro o' e
  cases e
  refine⟨⟨hv',hs',by simp,[],?_,by simp [RepVE],?_⟩,by simp,fun m hm=>by simp [Ob.names,namesE] at hm⟩
  ·rw [hg'];exact World.ownsRow_nil _ _ _ _
  ·rw [hg'];intro b hb;simp [Value.ownBlock] at hb
 ·intro o' b e hb
  rw [hg'] at hb
  simp [blk] at hb
 ·simp only [RepV,hv',hg']
  exact⟨Nat.le_refl _,⟨_,_,_,rfl⟩,fun _=>⟨none,0,0,rfl,rfl,Nat.le_refl _⟩⟩
 ·simp [V.names]
theorem RepVE.of {E:Env} : ∀ {es:List (List PV)} {vs:List Value},RepE E.H es vs→RepVE E (pvE es) vs
 | [],_,_=>by simp [pvE,RepVE]
 | e::es,vs,r=>by
  simp only [RepE] at r
  simp only [pvE,List.map_cons,RepVE]
  refine⟨RepVL.ofPv r.1,?_⟩
  have:=RepVE.of r.2
  simpa [pvE,pvL] using this
theorem RepVE.append {E:Env} {s:Nat} : ∀ {es fs:List (List V)} {vs us:List Value},(∀ e∈es,e.length=s)→vs.length=es.length * s→RepVE E es vs→RepVE E fs us→RepVE E (es++fs) (vs++us)
 | [],fs,vs,us,_,hl,_,r=>by
  have:vs=[]:=List.eq_nil_of_length_eq_zero (by simpa using hl)
  subst this
  simpa using r
 | e::es,fs,vs,us,hs,hl,r,r'=>by
  simp only [RepVE] at r
  have he:e.length=s:=hs e (by simp)
  have hle:s≤vs.length:=by rw [hl];simp only [List.length_cons,Nat.succ_mul];omega
  simp only [List.cons_append,RepVE]
  refine⟨RepVL.mono (Hle.refl _) e vs _ (List.prefix_append _ _) (fun n _=>EExt.refl E n) r.1,?_⟩
  rw [he,List.drop_append_of_le_length hle]
  rw [he] at r
  refine RepVE.append (fun x hx=>hs x (by simp [hx])) ?_ r.2 r'
  simp only [List.length_drop,hl,List.length_cons,Nat.succ_mul];omega
theorem RepVE.takeE {E:Env} {s:Nat} : ∀ {es:List (List V)} {vs:List Value},(∀ e∈es,e.length=s)→RepVE E es vs→∀ i,RepVE E (es.take i) (vs.take (i * s))
 | es,vs,_,r,0=>by simp [RepVE]
 | [],vs,_,r,i+1=>by simp [RepVE]
 | e::es,vs,hs,r,i+1=>by
  simp only [RepVE] at r
  have he:e.length=s:=hs e (by simp)
  simp only [List.take_succ_cons,RepVE]
  have hm:(i+1) * s=s+i * s:=by rw [Nat.succ_mul,Nat.add_comm]
  refine⟨?_,?_⟩
  ·have:=r.1.take s
   rw [List.take_of_length_le (by omega)] at this
   refine RepVL.mono (Hle.refl _) e _ _ ?_ (fun n _=>EExt.refl E n) this
   rw [hm,List.take_add]
   exact List.prefix_append _ _
  ·rw [he] at r ⊢
   have:=RepVE.takeE (fun x hx=>hs x (by simp [hx])) r.2 i
   rwa [hm,List.drop_take,Nat.add_sub_cancel_left]
theorem slice_cells (h:Ga C E σ a w) {es:List (List V)} {s:Nat} {b off:Nat} (hr:RepVE E es ((E.H b).drop off)) (hs:∀ e∈es,e.length=s) (hne:es≠[]) (hs0:0<s) :
  ∃ news,news.length=es.length * s∧RepVE E es news ∧ ∀ j u,news[j]? = some u→w.cell? ((⟨b,off,none⟩:Addr).add j)=some u:=by
 have hlen:∀ (es:List (List V)) (vs:List Value),(∀ e∈es,e.length=s)→RepVE E es vs→es.length * s≤vs.length:=by
  intro es
  induction es with
  | nil=>intro vs _ _;simp
  | cons e es ih =>
   intro vs hs r
   simp only [RepVE] at r
   have h1:=r.1.len
   have h2:=ih _ (fun x hx=>hs x (by simp [hx])) r.2
   have he:e.length=s:=hs e (by simp)
   simp only [List.length_drop,he,List.length_cons,Nat.succ_mul] at h1 h2 ⊢
   omega
 have hl:=hlen es _ hs hr
 have hpos:0<es.length * s:=Nat.mul_pos (List.length_pos_iff.2 hne) hs0
 have hne':E.H b≠[]:=by
  intro e
  rw [e] at hl
  simp only [List.drop_nil,List.length_nil] at hl
  omega
 obtain⟨c,T',fr,hcell,hpre,_⟩:=h.heap b hne'
 have hp1:=hpre.1
 refine⟨(c.toList.drop off).take (es.length * s),by simp at hl hp1 ⊢;omega,?_,?_⟩
 ·have:=RepVE.takeE hs hr es.length
  rw [List.take_length] at this
  exact this.msk ((hpre.drop off).take _)
 ·intro j u hj
  rw [List.getElem?_take] at hj
  split at hj
  ·rw [cell_at hcell]
   rw [List.getElem?_drop] at hj
   rw [← Array.getElem?_toList]
   exact hj
  ·cases hj
def SrcOK (E:Env) (ys:List (List V)) (v:Value):Prop :=
 (ys=[] ∧ ∃ ad c,v = .slice ad 0 c) ∨ ∃ b off c,v = .slice (some ⟨b,off,none⟩) ys.length c∧RepVE E ys ((E.H b).drop off)
theorem srcOf_ok {y:V} {ys:List (List V)} {v:Value} (h:srcOf y=some ys) (hy:RepV E y v):SrcOK E ys v:=by
 unfold srcOf at h
 split at h
 ·rename_i es
  cases h
  simp only [RepV,RepP] at hy
  obtain⟨ad,c,rfl,_,_,hr⟩:=hy
  rcases hr with rfl|⟨b,off,rfl,hr⟩
  ·exact .inl ⟨rfl,_,_,rfl⟩
  ·exact .inr ⟨b,off,c,by simp [pvE],RepVE.of hr⟩
 ·cases h
  simp only [RepV,RepP] at hy
  exact .inl ⟨rfl,_,_,hy⟩
 ·cases h
  simp only [RepV] at hy
  obtain⟨ad,c,rfl,_,_,hr⟩:=hy
  rcases hr with rfl|⟨b,off,rfl,hr⟩
  ·exact .inl ⟨rfl,_,_,rfl⟩
  ·exact .inr ⟨b,off,c,rfl,hr⟩
 ·cases h
theorem srcOf_names {y:V} {ys:List (List V)} (h:srcOf y=some ys):∀ n∈namesE ys,n∈y.names:=by
 unfold srcOf at h
 split at h
 ·cases h;intro n hn;rw [namesE_pvE] at hn;simp at hn
 ·cases h;intro n hn;simp [namesE] at hn
 ·cases h;intro n hn;simpa [V.names] using hn
 ·cases h
theorem run_append_zero {t e:Nat} {te:TI} (hte:TIOK P e te) (hde:P.underlying t=some (.slice e)) {ad ad':Option Addr} {len cap c ty:Nat} (hle:len≤cap) :
  (Builtin.append_ #[t,t] ty #[.slice ad len cap,.slice ad' 0 c]).run P w = .ok (.slice ad len cap) w:=by
 cases ad<;>cases ad'<;>simp [Builtin.append_,run_underlying hde,hte.run_size,Builtin.lenOf,Builtin.firstCells,loadCells,loadCellsFrom,storeCells,hle]
theorem append_run (h:Ga C E σ a w) {t e:Nat} {te:TI} (hte:TIOK P e te) (hde:P.underlying t=some (.slice e)) {n ver len sz ty ty':Nat} {es:List (List V)} (hob:ObOK E w n (.arr ver sz ty es)) {u v:Value}
  (hu:RepV E (.arr n ver len) u) {ys:List (List V)} (hv:SrcOK E ys v) (hty:ty=e) (hsz:sz=te.size) (hs0:0<sz) (hys:∀ y∈ys,y.length=sz) (hone:∀ y∈ys,y.all V.one=true)
  (hmax:len+ys.length≤maxLen) (hby:(len+ys.length) * te.bytes≤140737488355328) :
  ∃ u' w' xs,(Builtin.append_ #[t,t] ty' #[u,v]).run P w = .ok u' w'∧w'.ownsRow 0 ty sz u' (len+ys.length) xs∧RepVE E (es.take len++ys) xs ∧
   w.heap.size≤w'.heap.size∧(w'.os=w.os∧w'.tape=w.tape∧w'.output=w.output)∧(∀ b,b<w.heap.size→blk u≠some b→w'.heap[b]? = w.heap[b]?)∧(∀ b,blk u'=some b→w.heap.size≤b∨blk u=some b):=by
 obtain⟨hver,hsz',hlen,xs,hown,hrx,hfree⟩:=id hob
 obtain⟨ad,cap,hgn,hu',hle,hlc,hm⟩:=arr_view hob hu
 subst hu'
 have hlen':∀ e∈es.take len,e.length=sz:=fun e he=>hlen e (List.mem_of_mem_take he)
 have hxs:RepVE E (es.take len) (xs.take (len * sz)):=hrx.takeE hlen len
 have hxl:(xs.take (len * sz)).length=len * sz:=by
  have:=hown.1
  have hm2:len * sz≤es.length * sz:=Nat.mul_le_mul_right _ hle
  simp;omega
 have htl:(es.take len).length=len:=by simp;omega
 obtain⟨hii,hinfo,hisz,hiby,hiz⟩:=hte.info
 by_cases hy0:ys=[]
 ·subst hy0
  have hvv:∃ ad' c,v = .slice ad' 0 c:=by
   rcases hv with ⟨_,h⟩|⟨b,off,c,rfl,_⟩
   ·exact h
   ·exact⟨_,c,rfl⟩
  obtain⟨ad',c,rfl⟩:=hvv
  refine⟨_,w,xs.take (len * sz),run_append_zero hte hde (by omega),?_,by simpa using hxs,Nat.le_refl _,⟨rfl,rfl,rfl⟩,fun _ _ _=>rfl,fun b hb => .inr hb⟩
  simp only [List.length_nil,Nat.add_zero]
  refine⟨hxl,?_⟩
  rw [hgn] at hown
  rcases hown.2 with ⟨e0,h0⟩|⟨g,cap',cur,e0,hb0,hc,h1,h2,h3,h4⟩
  ·simp only [Value.slice.injEq] at e0
   obtain⟨rfl,e1,rfl⟩:=e0
   left
   have:len=0:=by omega
   exact⟨by rw [this],this⟩
  ·cases e0
   right
   refine⟨g,cap,cur,rfl,hb0,hc,by omega,h2,h3,?_⟩
   rw [← h4,List.take_take,Nat.min_eq_left]
   exact Nat.mul_le_mul_right _ hle
 ·have hv:∃ b off c,v = .slice (some ⟨b,off,none⟩) ys.length c∧RepVE E ys ((E.H b).drop off):=by
   rcases hv with ⟨e0,_⟩|hv
   ·exact absurd e0 hy0
   ·exact hv
  obtain⟨b',off',c',rfl,hsrc⟩:=hv
  obtain⟨news,hnl,hnr,hncell⟩:=slice_cells h hsrc hys hy0 hs0
  have hnone:∀ u∈news,u.oneCell'=true:=by
   have key:∀ (ys:List (List V)) (news:List Value),(∀ y∈ys,y.length=sz)→(∀ y∈ys,y.all V.one=true)→news.length=ys.length * sz→RepVE E ys news→∀ u∈news,u.oneCell'=true:=by
    intro ys
    induction ys with
    | nil =>
     intro news _ _ hl _ u hu
     have:news=[]:=List.eq_nil_of_length_eq_zero (by simpa using hl)
     subst this
     simp at hu
    | cons y ys ih =>
     intro news h1 h2 hl r u hu
     simp only [RepVE] at r
     have hy:y.length=sz:=h1 y (by simp)
     have hl':news.length=sz+ys.length * sz:=by rw [hl];simp only [List.length_cons,Nat.succ_mul];omega
     rw [← List.take_append_drop sz news] at hu
     rcases List.mem_append.1 hu with hu|hu
     ·have hr:=r.1.take sz
      rw [List.take_of_length_le (by omega)] at hr
      exact one_all (E:=E) (h2 y (by simp)) (by simp;omega) hr u hu
     ·rw [hy] at r
      exact ih (news.drop sz) (fun x hx=>h1 x (by simp [hx])) (fun x hx=>h2 x (by simp [hx])) (by simp;omega) r.2 u hu
   exact key ys news hys hone hnl hnr
  have hall:RepVE E (es.take len++ys) (xs.take (len * sz)++news):=RepVE.append (s:=sz) hlen' (by rw [hxl,htl]) hxs hnr
  have hal:(xs.take (len * sz)++news).length=(len+ys.length) * sz:=by rw [List.length_append,hxl,hnl,Nat.add_mul]
  have hpos:0<ys.length:=List.length_pos_iff.2 hy0
  have hsmall:len+ys.length≤9223372036854775807:=by simp only [maxLen] at hmax;omega
  have hzc:te.zero.cells.size=sz:=by rw [hte.zlen,hsz]
  have hgrown:∀ old,old<len+ys.length →
    (w.drew.alloc (.cells ((xs.take (len * sz)).toArray++news.toArray++Builtin.zeroCells te.zero.cells (grownCap w (len+ys.length) old e-(len+ys.length))) e)).ownsRow 0 e sz
     (.slice (some ⟨w.heap.size,0,none⟩) (len+ys.length) (grownCap w (len+ys.length) old e)) (len+ys.length) (xs.take (len * sz)++news):=by
   intro old ho
   have hge:=grownCap_ge w (len+ys.length) old e
   have hcm:grownCap w (len+ys.length) old e≤maxLen:=grownCap_le_maxLen w (len+ys.length) old e hmax
   refine⟨hal,.inr ⟨w.heap.size,_,_,rfl,Nat.zero_le _,heap_alloc_new w.drew _,hge,hcm,?_,?_⟩⟩
   ·simp only [Array.size_append,List.size_toArray,size_zeroCells,hzc,hxl,hnl,← Nat.add_mul]
    congr 1
    omega
   ·simp only [Array.toList_append]
    rw [← hal]
    exact List.take_left
  subst hty hsz
  rw [hgn] at hown
  rcases hown.2 with ⟨e0,h0⟩|⟨g,cap',cur,e0,hb0,hc,h1,h2,h3,h4⟩
  ·simp only [Value.slice.injEq] at e0
   obtain⟨rfl,e1,rfl⟩:=e0
   have hl0:len=0:=by omega
   subst hl0
   have hr:=run_append_nil (P:=P) w t ty' ty hii te.zero hde hinfo hiz ⟨b',off',none⟩ ys.length c' news (by rw [hisz];exact hnl) hncell hpos (by omega) (by rw [hiby];simp at hby;omega)
   have hgr:=hgrown 0 (by omega)
   simp only [Nat.zero_add,Nat.zero_mul,List.take_zero,List.nil_append,Array.empty_append] at hgr hall ⊢
   refine⟨_,_,_,by rw [hr],hgr,hall,by simp,⟨rfl,rfl,rfl⟩,fun b hb _=>heap_alloc_old w.drew _ b hb,fun b hb => ?_⟩
   simp [blk] at hb
   omega
  ·cases e0
   by_cases hroom:len+ys.length≤cap
   ·have hml:len * te.size≤es.length * te.size:=Nat.mul_le_mul_right _ hle
    have hmr:(len+ys.length) * te.size≤cap * te.size:=Nat.mul_le_mul_right _ hroom
    rw [Nat.add_mul] at hmr
    have hfit:len * hii.size+news.length≤cur.size:=by rw [hnl,h3,hisz];exact hmr
    have hr:=run_append_room (P:=P) w t ty' ty hii hde hinfo g len cap cur hc ⟨b',off',none⟩ ys.length c' news (by rw [hisz];exact hnl) hncell hnone hroom hfit
    refine⟨_,_,_,hr,⟨hal,.inr ⟨g,cap,_,rfl,hb0,setRow_heap w g cur _ ty _ hc,hroom,h2,?_,?_⟩⟩,hall,by simp,⟨rfl,rfl,rfl⟩,fun b hb hne=>setRow_other w g b _ (fun e=>hne (by simp [blk,e])),fun b hb => .inr hb⟩
    ·simp only [List.size_toArray,List.length_append,List.length_take,List.length_drop,Array.length_toList]
     omega
    ·have:xs.take (len * te.size)=cur.toList.take (len * te.size):=by
      rw [← h4,List.take_take,Nat.min_eq_left hml]
     rw [hisz,← this,← hal]
     exact List.take_left
   ·have holds:∀ j u,(xs.take (len * te.size))[j]? = some u→w.cell? ((⟨g,0,none⟩:Addr).add j)=some u:=by
     intro j u hj
     rw [cell_at hc,Nat.zero_add]
     rw [List.getElem?_take] at hj
     split at hj
     ·rw [← h4,List.getElem?_take] at hj
      split at hj
      ·simpa using hj
      ·cases hj
     ·cases hj
    have hr:=run_append_grow (P:=P) w t ty' ty hii te.zero hde hinfo hiz ⟨g,0,none⟩ len cap (xs.take (len * te.size)) (by rw [hisz];exact hxl) holds ⟨b',off',none⟩ ys.length c' news (by rw [hisz];exact hnl) hncell (by omega) (by omega) (growslice_fits (by omega) (by rw [hiby];exact hby))
    refine⟨_,_,_,hr,hgrown cap (by omega),hall,by simp,⟨rfl,rfl,rfl⟩,fun b hb _=>heap_alloc_old w.drew _ b hb,fun b hb => ?_⟩
    simp [blk] at hb
    omega
theorem exec_append {t:Nat} {x y:Operand} (ho:o.op = .call { callee:=.builtin .append,args:=#[x,y],argTypes:=#[t,t] }) {v:Value} {w':World}
  (h:(Builtin.append_ #[t,t] o.type #[a.eval x,a.eval y]).run P w = .ok v w'):OpRes P o a w v w':=by
 refine .inl ?_
 simp only [execOp,ho,resolve,invoke,builtin,Sem.run_bind,Sem.run_pure,Result.andThen_ok,List.map_toArray,List.map_cons,List.map_nil,h]
theorem setO_setO (l:List (Nat × Ob)) (n:Nat) (x y:Ob):setO (setO l n x) n y=setO l n y:=by
 induction l with
 | nil=>simp [setO]
 | cons p r ih =>
  obtain⟨k,z⟩:=p
  simp only [setO]
  split
  ·rename_i e;simp [setO,e]
  ·rename_i e;simp [setO,e,ih]
theorem addArr (h:Ga C E σ a w) {n sz ty:Nat} (hn:n ∉ σ.used):∃ E',Ga C E' ⟨σ.slots,setO σ.objs n (.arr 0 sz ty []),n::σ.used⟩ a w∧RepV E' (.arr n 0 0) (.slice none 0 0):=by
 let E':Env:={ H:=E.H,g:=fun m=>if m=n then .slice none 0 0 else E.g m,ver:=fun m=>if m=n then 0 else E.ver m,sz:=fun m=>if m=n then sz else E.sz m }
 have hg':E'.g n = .slice none 0 0:=by simp [E']
 have hv':E'.ver n=0:=by simp [E']
 have hs':E'.sz n=sz:=by simp [E']
 have hE:∀ m,m≠n→E'.g m=E.g m∧E'.ver m=E.ver m∧E'.sz m=E.sz m:=fun m hm=>⟨by simp [E',hm],by simp [E',hm],by simp [E',hm]⟩
 refine⟨E',?_,?_⟩
 ·refine h.change (E':=E') n (some (.arr 0 sz ty [])) (setO σ.objs n (.arr 0 sz ty [])) (n::σ.used) none .undef (.slice none 0 0) (fun m=>getO_setO _ _ _ _) (Hle.refl _) hE (fun hk=>absurd hk hn) (fun hk=>absurd hk hn)
   (Nat.le_refl _) ⟨rfl,rfl,rfl⟩ (fun b hb _=>⟨rfl,rfl⟩) h.heap ?_ ?_ (fun m hm=>by simp [hm]) ?_ ?_ (fun d hd=>by cases hd)
  ·intro o' e
   cases e
   refine⟨⟨hv',hs',by simp,[],?_,by simp [RepVE],?_⟩,by simp,fun m hm=>by simp [Ob.names,namesE] at hm⟩
   ·rw [hg'];exact World.ownsRow_nil _ _ _ _
   ·rw [hg'];intro b hb;simp [Value.ownBlock] at hb
  ·intro o' b e hb
   rw [hg'] at hb
   simp [blk] at hb
  ·simp [RepV]
  ·simp [V.names]
 ·simp only [RepV,hv',hg']
  exact⟨Nat.le_refl _,⟨_,_,_,rfl⟩,fun _=>⟨none,0,0,rfl,rfl,Nat.le_refl _⟩⟩
theorem append_arr (h:Ga C E σ a w) (hd:∀ d,o.dst=some d→d<C.nt) {t e:Nat} {te:TI} (hte:TIOK P e te) (hde:P.underlying t=some (.slice e)) {x y:Operand}
  (ho:o.op = .call { callee:=.builtin .append,args:=#[x,y],argTypes:=#[t,t] }) {n ver len sz ty:Nat} {es ys:List (List V)} {yv:V} (eo:getO σ.objs n=some (.arr ver sz ty es)) (hx:RepV E (.arr n ver len) (a.eval x))
  (nx:∀ m∈(V.arr n ver len).names,m∈σ.used) (es':srcOf yv=some ys) (hy:RepV E yv (a.eval y)) (ny:∀ m∈yv.names,m∈σ.used) (hle:len≤es.length) (hty:ty=e) (hsz:sz=te.size) (hs0:0<sz) (hys:∀ y∈ys,y.length=sz)
  (hone:∀ y∈ys,y.all V.one=true) (hmax:len+ys.length≤maxLen) (hby:(len+ys.length) * te.bytes≤140737488355328) {cd:Prop} :
  Sound P C E σ a w o ⟨cd,True,.arr n (ver+1) (len+ys.length),some (n,.arr (ver+1) sz ty (es.take len++ys)),false⟩:=by
 have hob:=h.objs n _ eo
 have hyv:=srcOf_ok es' hy
 have hyn:=srcOf_names es'
 obtain⟨u',w',xs,hrun,hown,hrx,hsize,hrest,hblk,hnew⟩:=append_run (ty':=o.type) h hte hde hob hx hyv hty hsz hs0 hys hone hmax hby
 obtain⟨hver,hsz',hlen,_,_,_,_⟩:=id hob
 obtain⟨ad,cap,hgn,hu,hle',hlc,hm⟩:=arr_view hob hx
 have hbu:blk (a.eval x)=blk (E.g n):=by rw [hu,hgn];cases ad<;>rfl
 rw [hbu] at hblk hnew
 let E':Env:={ H:=E.H,g:=fun m=>if m=n then u' else E.g m,ver:=fun m=>if m=n then ver+1 else E.ver m,sz:=E.sz }
 have hg':E'.g n=u':=by simp [E']
 have hv':E'.ver n=ver+1:=by simp [E']
 have hE:∀ m,m≠n→E'.g m=E.g m∧E'.ver m=E.ver m∧E'.sz m=E.sz m:=fun m hm=>⟨by simp [E',hm],by simp [E',hm],rfl⟩
 have hee:∀ m,EExt E E' m:=by
  intro m
  by_cases em:m=n
  ·subst em
   exact⟨rfl,.inr ⟨by rw [hv'];omega,_,_,_,hgn⟩⟩
  ·exact EExt.of_eq (hE m em).1 (hE m em).2.1 (hE m em).2.2
 have hfreeB:∀ b,blk u'=some b→E.H b=[]:=by
  intro b hb
  rcases hnew b hb with hge|hb'
  ·exact h.heap.lt hge
  ·exact hob.free hb'
 have hobl:∀ b,u'.ownBlock=some b→blk u'=some b:=by
  intro b hb
  revert hb
  cases u'<;>simp [Value.ownBlock,blk]
  rename_i a' _ _
  cases a'<;>simp
 have htl:(es.take len).length=len:=by simp;omega
 refine⟨u',w',E',exec_append ho hrun,?_,trivial⟩
 refine h.change (E':=E') n (some (.arr (ver+1) sz ty (es.take len++ys))) _ σ.used o.dst _ u' (fun m=>getO_setO _ _ _ _) (Hle.refl _) hE (fun _=>hee n) (fun _=>⟨_,eo⟩) hsize hrest
  (fun b hb hne=>⟨hblk b hb (hne _ eo),rfl⟩) ?_ ?_ ?_ (fun _ h=>h) ?_ ?_ hd
 ·intro b hb
  obtain⟨c,T',fr,hcell,hp⟩:=h.heap b hb
  refine⟨c,T',fr,?_,hp⟩
  rw [hblk b (Array.getElem?_eq_some_iff.1 hcell).1 (fun e=>hb (hob.free e))]
  exact hcell
 ·intro o' e0
  cases e0
  refine⟨⟨hv',hsz',?_,xs,?_,?_,?_⟩,(h.usedO n _ eo).1,?_⟩
  ·intro e1 he1
   rcases List.mem_append.1 he1 with he1|he1
   ·exact hlen e1 (List.mem_of_mem_take he1)
   ·exact hys e1 he1
  ·rw [hg']
   have:(es.take len++ys).length=len+ys.length:=by rw [List.length_append,htl]
   rw [this]
   exact hown
  ·exact RepVE.mono (E:=E) (E':=E') (Hle.refl E.H) _ _ _ List.prefix_rfl (fun m _=>hee m) hrx
  ·intro b hb
   rw [hg'] at hb
   exact hfreeB b (hobl b hb)
  ·intro m hm
   simp only [Ob.names] at hm
   obtain⟨e1,he1,hm⟩:=mem_namesE.1 hm
   rcases List.mem_append.1 he1 with he1|he1
   ·exact (h.usedO n _ eo).2 m (mem_namesE.2 ⟨e1,List.mem_of_mem_take he1,hm⟩)
   ·exact ny m (hyn m (mem_namesE.2 ⟨e1,he1,hm⟩))
 ·intro o' b e0 hb
  rw [hg'] at hb
  rcases hnew b hb with hge|hb'
  ·exact .inl hge
  ·exact .inr ⟨hb',_,eo⟩
 ·simp only [RepV,hv',hg']
  have hsl:∃ a l c,u' = .slice a l c∧l=len+ys.length:=by
   rcases hown.2 with ⟨e1,e2⟩|⟨g,cap',cur,e1,_⟩
   ·exact⟨none,0,0,e1,e2.symm⟩
   ·exact⟨_,_,_,e1,rfl⟩
  obtain⟨a',l',c',e1,e2⟩:=hsl
  refine⟨Nat.le_refl _,⟨a',l',c',e1⟩,fun _=>⟨a',l',c',e1,?_,?_⟩⟩
  ·rw [e1,e2]
  ·rw [e2];omega
 ·intro m hm
  simp only [V.names] at hm nx
  exact nx m hm
theorem append_full (h:Ga C E σ a w) (hd:∀ d,o.dst=some d→d<C.nt) {t e:Nat} {te:TI} (hte:TIOK P e te) (hde:P.underlying t=some (.slice e)) {x y:Operand} (ho:o.op = .call { callee:=.builtin .append,args:=#[x,y],argTypes:=#[t,t] })
  {es ys:List (List PV)} (hx:RepV E (.fsl es) (a.eval x)) (hy:RepV E (.pv (.slice ys)) (a.eval y)) (hlen:∀ e∈es,e.length=te.size) (hlen2:∀ y∈ys,y.length=te.size) (hs0:0<te.size) (hne:ys≠[]) (hmax:es.length+ys.length≤maxLen)
  (hby:(es.length+ys.length) * te.bytes≤140737488355328) {cd:Prop} : Sound P C E σ a w o ⟨cd,True,.pv (.slice (es++ys)),none,false⟩:=by
 obtain⟨hii,hinfo,hisz,hiby,hiz⟩:=hte.info
 have pl:∀ (l:List (List PV)),(∀ e∈l,e.length=te.size)→∀ e∈pvE l,e.length=te.size:=by
  intro l hl e he
  obtain⟨e',he',rfl⟩:=List.mem_map.1 he
  simpa [pvL] using hl e' he'
 have hpl:∀ l:List (List PV),(pvE l).length=l.length:=by intro l;simp [pvE]
 -- what is appended
 rcases srcOf_ok (y:=.pv (.slice ys)) (ys:=pvE ys) rfl hy with ⟨e0,_⟩|⟨b',off',c',hvv,hsr⟩
 ·exact absurd e0 (by simpa [pvE] using hne)
 obtain⟨news,hnl,hnr,hncell⟩:=slice_cells h hsr (pl ys hlen2) (by simpa [pvE] using hne) hs0
 rw [hpl] at hnl hvv
 have hnr:=RepVE.toPv (unE_pvE ys) hnr
 have hpos:0<ys.length:=List.length_pos_iff.2 hne
 have hsmall:es.length+ys.length≤9223372036854775807:=by simp only [maxLen] at hmax;omega
 -- what is there
 have hold:∃ ad xs,a.eval x = .slice ad es.length es.length∧xs.length=es.length * te.size∧RepE E.H es xs∧(es=[] ∨ ∃ b off,ad=some ⟨b,off,none⟩ ∧ ∀ j u,xs[j]? = some u→w.cell? ((⟨b,off,none⟩:Addr).add j)=some u):=by
  simp only [RepV] at hx
  obtain⟨ad,hv,_,hr⟩:=hx
  rcases hr with rfl|⟨b,off,rfl,hr⟩
  ·exact⟨ad,[],hv,by simp,by simp only [RepE],.inl rfl⟩
  ·by_cases he:es=[]
   ·subst he
    exact⟨_,[],hv,by simp,by simp only [RepE],.inl rfl⟩
   ·obtain⟨xs,h1,h2,h3⟩:=slice_cells h (es:=pvE es) (RepVE.of hr) (pl es hlen) (by simpa [pvE] using he) hs0
    rw [hpl] at h1
    exact⟨_,xs,hv,h1,RepVE.toPv (unE_pvE es) h2,.inr ⟨b,off,rfl,h3⟩⟩
 obtain⟨ad,xs,hxv,hxl,hxr,hxc⟩:=hold
 have hall:RepE E.H (es++ys) (xs++news):=by
  have:∀ (l:List (List PV)) (us:List Value),(∀ e∈l,e.length=te.size)→us.length=l.length * te.size→RepE E.H l us→RepE E.H (l++ys) (us++news):=by
   intro l
   induction l with
   | nil =>
    intro us _ hu _
    have:us=[]:=List.eq_nil_of_length_eq_zero (by simpa using hu)
    subst this
    simpa using hnr
   | cons e l ih =>
    intro us hl hu r
    simp only [RepE,List.cons_append] at r ⊢
    have he:=hl e (by simp)
    have hu':us.length=te.size+l.length * te.size:=by rw [hu];simp only [List.length_cons,Nat.succ_mul];omega
    refine⟨RepL.mono (Hle.refl _) e _ _ (List.prefix_append _ _) r.1,?_⟩
    rw [List.drop_append_of_le_length (by omega)]
    exact ih _ (fun x hx=>hl x (by simp [hx])) (by rw [List.length_drop];omega) r.2
  exact this es xs hlen hxl hxr
 -- the new row
 have fin:∀ (old:Nat),old<es.length+ys.length→(Builtin.append_ #[t,t] o.type #[a.eval x,a.eval y]).run P w = .ok (.slice (some ⟨w.heap.size,0,none⟩) (es.length+ys.length) (grownCap w (es.length+ys.length) old e)) (w.drew.alloc (.cells (xs.toArray++news.toArray++Builtin.zeroCells te.zero.cells (grownCap w (es.length+ys.length) old e-(es.length+ys.length))) e))→Sound P C E σ a w o ⟨cd,True,.pv (.slice (es++ys)),none,false⟩:=by
  intro old ho' hr
  obtain⟨E',hE'⟩:=h.drew.newRow (dst:=o.dst) hd e (xs.toArray++news.toArray++Builtin.zeroCells te.zero.cells (grownCap w (es.length+ys.length) old e-(es.length+ys.length))) (x:=.pv (.slice (es++ys))) (v:=.slice (some ⟨w.heap.size,0,none⟩) (es.length+ys.length) (grownCap w (es.length+ys.length) old e)) (by
   intro H' hH hnew
   simp only [RepV,RepP]
   refine⟨_,_,by rw [List.length_append],by rw [List.length_append];exact grownCap_ge w (es.length+ys.length) old e,by rw [List.length_append];exact hmax,.inr ⟨w.heap.size,0,rfl,?_⟩⟩
   have hnew':H' w.heap.size=(xs.toArray++news.toArray++Builtin.zeroCells te.zero.cells (grownCap w (es.length+ys.length) old e-(es.length+ys.length))).toList:=hnew
   rw [hnew']
   refine RepE.mono hH (es++ys) (xs++news) _ ?_ hall
   simp) (by simp [V.names])
  exact⟨_,_,E',exec_append ho hr,hE',trivial⟩
 by_cases he:es=[]
 ·subst he
  have hx0:xs=[]:=List.eq_nil_of_length_eq_zero (by simpa using hxl)
  subst hx0
  simp only [List.length_nil,Nat.zero_add] at hxv fin hsmall hby
  cases ad with
  | none =>
   have hr:=run_append_nil (P:=P) w t o.type e hii te.zero hde hinfo hiz ⟨b',off',none⟩ ys.length c' news (by rw [hisz];exact hnl) hncell hpos (by omega) (by rw [hiby];omega)
   refine fin 0 hpos ?_
   rw [hxv,hvv,hr]
   simp
  | some ad =>
   have hr:=run_append_grow (P:=P) w t o.type e hii te.zero hde hinfo hiz ad 0 0 [] (by simp) (by intro j u hj;simp at hj) ⟨b',off',none⟩ ys.length c' news (by rw [hisz];exact hnl) hncell (by omega) (by omega) (growslice_fits (by omega) (by rw [hiby];simpa using hby))
   refine fin 0 hpos ?_
   rw [hxv,hvv,hr]
   simp
 ·rcases hxc with h0|⟨b,off,rfl,hcell⟩
  ·exact absurd h0 he
  ·have hr:=run_append_grow (P:=P) w t o.type e hii te.zero hde hinfo hiz ⟨b,off,none⟩ es.length es.length xs (by rw [hisz];exact hxl) hcell ⟨b',off',none⟩ ys.length c' news (by rw [hisz];exact hnl) hncell (by omega) (by omega) (growslice_fits (by omega) (by rw [hiby];exact hby))
   refine fin es.length (by omega) ?_
   rw [hxv,hvv,hr]
theorem sound_append (h:Ga C E σ a w) (hg:GOK gl C.E0.H) (hd:∀ d,o.dst=some d→d<C.nt) (hT:TOK P T) {args:Array Operand} {argTypes:Array Nat} (ho:o.op = .call { callee:=.builtin .append,args,argTypes }) {r:R} (hc:r.cond)
  (hs:stepOp T note (σ.val gl) (getO σ.objs) o.dst (.call { callee:=.builtin .append,args,argTypes })=some r) (hn:∀ n x,r.wr=some (n,x)→r.new=true→n ∉ σ.used):Sound P C E σ a w o r:=by
 simp only [stepOp] at hs
 split at hs
 ·rename_i t t' x y et ex
  have hat:argTypes = #[t,t']:=by rw [← Array.toArray_toList (xs:=argTypes),et]
  have hax:args = #[x,y]:=by rw [← Array.toArray_toList (xs:=args),ex]
  subst hat hax
  split at hs
  ·rename_i htt
   subst htt
   have hx:=val_rep h hg x
   have hy:=val_rep h hg y
   have nx:=val_names (gl:=gl) h x
   split at hs
   ·rename_i e s1 s2 s3 s4 et
    obtain⟨d,hde,hk⟩:=(hT t _ et).desc
    simp only [TKOK] at hk
    subst hk
    split at hs
    ·rename_i te ee
     have hte:=hT e te ee
     unfold stepAppend at hs
     split at hs
     ·rename_i n ver len exv
      rw [exv] at hx nx
      split at hs
      ·rename_i ver' sz ty es ys eo es'
       cases hs
       obtain⟨rfl,hle,hty,hsz,hs0,hys,hone,hmax,hby⟩:=hc
       exact append_arr h hd hte hde ho eo hx nx es' hy (val_names (gl:=gl) h y) hle hty hsz hs0 hys hone hmax hby
      ·cases hs
     ·rename_i es exv
      rw [exv] at hx
      split at hs
      ·rename_i ys ey
       rw [ey] at hy
       cases hs
       obtain⟨hlen,hlen2,hs0,hne,hmax,hby⟩:=hc
       exact append_full h hd hte hde ho hx hy hlen hlen2 hs0 hne hmax hby
      ·cases hs
     ·split at hs
      ·split at hs
       ·rename_i _ es ey
        cases hs
        obtain⟨hlen,hs0,hby⟩:=hc
        rw [ey] at hy
        obtain⟨hii,hinfo,hisz,hiby,hiz⟩:=hte.info
        by_cases hes:es=[]
        ·subst hes
         have hvv:∃ ad' c,a.eval y = .slice ad' 0 c:=by
          simp only [RepV,RepP] at hy
          obtain⟨ad',c,hv,_⟩:=hy
          exact⟨ad',c,hv⟩
         obtain⟨ad',c,hv⟩:=hvv
         have hr:=run_append_zero (P:=P) (w:=w) (ty:=o.type) (ad:=none) (ad':=ad') (c:=c) (len:=0) (cap:=0) hte hde (Nat.le_refl _)
         refine Sound.pure h (v:=.slice none 0 0) (exec_append ho ?_) ?_ (by simp [V.names]) hd trivial
         ·rw [hv];exact hr
         ·simp [RepV,RepP,maxLen]
        ·have hsrc:=srcOf_ok (y:=.pv (.slice es)) (ys:=pvE es) rfl hy
         have hpe:pvE es≠[]:=by simpa [pvE] using hes
         have hplen:∀ e∈pvE es,e.length=te.size:=by
          intro e he
          obtain⟨e',he',rfl⟩:=List.mem_map.1 he
          simpa [pvL] using hlen e' he'
         rcases hsrc with ⟨e0,_⟩|⟨b',off',c',hvv,hsr⟩
         ·exact absurd e0 hpe
         obtain⟨news,hnl,hnr,hncell⟩:=slice_cells h hsr hplen hpe hs0
         have hpl:(pvE es).length=es.length:=by simp [pvE]
         rw [hpl] at hnl hvv
         have hnr:=RepVE.toPv (unE_pvE es) hnr
         have hpos:0<es.length:=List.length_pos_iff.2 hes
         have hlm:es.length≤maxLen:=by
          simp only [RepV,RepP] at hy
          obtain⟨_,_,_,_,hm,_⟩:=hy
          exact hm
         have hr:=run_append_nil (P:=P) w t o.type e hii te.zero hde hinfo hiz ⟨b',off',none⟩ es.length c' news (by rw [hisz];exact hnl) hncell hpos (by simp only [maxLen] at hlm;omega) (by rw [hiby];omega)
         obtain⟨E',hE'⟩:=h.drew.newRow (dst:=o.dst) hd e (news.toArray++Builtin.zeroCells te.zero.cells (grownCap w es.length 0 e-es.length)) (x:=.pv (.slice es)) (v:=.slice (some ⟨w.heap.size,0,none⟩) es.length (grownCap w es.length 0 e)) (by
          intro H' hH hnew
          simp only [RepV,RepP]
          refine⟨_,_,rfl,grownCap_ge w es.length 0 e,hlm,.inr ⟨w.heap.size,0,rfl,?_⟩⟩
          have hnew':H' w.heap.size=(news.toArray++Builtin.zeroCells te.zero.cells (grownCap w es.length 0 e-es.length)).toList:=hnew
          rw [hnew']
          refine RepE.mono hH es news _ ?_ hnr
          simp) (by simp [V.names])
         exact⟨_,_,E',exec_append ho (by rw [hvv];exact hr),hE',trivial⟩
       ·rename_i yv _ n sz ty
        split at hs
        ·rename_i ys es'
         cases hs
         obtain⟨hty,hsz,hs0,hys,hone,hmax,hby⟩:=hc
         obtain⟨E₁,h₁,hx₁⟩:=addArr h (n:=n) (sz:=sz) (ty:=ty) (hn _ _ rfl rfl)
         have hyv:RepV E₁ ((σ.val gl) y) (a.eval y):=by
          have:=val_rep (σ:=⟨σ.slots,setO σ.objs n (.arr 0 sz ty []),n::σ.used⟩) h₁ hg y
          exact this
         obtain⟨v,w',E',h1,h2,h3⟩:=append_arr (cd:=True) h₁ hd hte hde ho (n:=n) (ver:=0) (len:=0) (sz:=sz) (ty:=ty) (es:=[]) (ys:=ys) (by simp [getO_setO]) hx₁ (by simp [V.names]) es' hyv
          (fun m hm=>by simp [val_names (gl:=gl) h y m hm]) (Nat.le_refl _) hty hsz hs0 hys hone (by omega) (by simpa using hby)
         refine⟨v,w',E',h1,?_,trivial⟩
         simp only [St.app,setO_setO,List.take_nil,List.nil_append,Nat.zero_add] at h2
         exact h2
        ·cases hs
       ·cases hs
      ·cases hs
    ·cases hs
   ·cases hs
  ·cases hs
 ·cases hs
theorem sound_max (h:Ga C E σ a w) (hg:GOK gl C.E0.H) (hd:∀ d,o.dst=some d→d<C.nt) {args:Array Operand} {argTypes:Array Nat} (ho:o.op = .call { callee:=.builtin .max,args,argTypes }) {r:R}
  (hs:stepOp T note (σ.val gl) (getO σ.objs) o.dst (.call { callee:=.builtin .max,args,argTypes })=some r):Sound P C E σ a w o r:=by
 simp only [stepOp] at hs
 split at hs
 ·rename_i x y ex
  have hax:args = #[x,y]:=by rw [← Array.toArray_toList (xs:=args),ex]
  subst hax
  have hx:=val_rep h hg x
  have hy:=val_rep h hg y
  split at hs
  ·rename_i m n em en
   cases hs
   rw [em] at hx
   rw [en] at hy
   have hx:=rep_int hx
   have hy:=rep_int hy
   refine Sound.pure h (v:=.int .i64 (if n > m then n else m)) (.inl ?_) ?_ (by simp [R.of,V.names]) hd trivial
   ·simp [execOp,ho,resolve,invoke,builtin,Builtin.max_,Builtin.max2,hx,hy]
   ·simp [RepV,RepP]
  ·cases hs
 ·cases hs
end
end Go.Lg
