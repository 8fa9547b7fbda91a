/- The logic of contracts; no conditions. -/
import Derived.Test.YtbbbnbikmbaejaaGreatDoorConA1
import Derived.Laws.Tables
set_option linter.all false
namespace Go.Lg
section
variable {P:Program} {C:Ctx} {E:Env} {σ:St} {a:Act} {w:World} {gl:Nat→Option (List PV)} {o:Oper} {T:Nat→Option TI} {note:qXa}
theorem qV8 {n ver sz ty:Nat} {es:List (List V)} (h:ObOK E w n (.arr ver sz ty es)) :
  ∃ ad cap,E.g n = .slice ad es.length cap∧es.length≤cap∧es.length≤maxLen ∧
   (ad=none∧es=[]∧cap=0 ∨ ∃ b cur,ad=some ⟨b,0,none⟩∧w.heap[b]? = some (.cells cur ty (0,0))∧cur.size=cap * sz∧RepVE E es cur.toList∧E.H b=[]):=by
 obtain⟨_,_,_,xs,ho,hr,hf⟩:=h
 rcases ho.2 with ⟨e,h0⟩|⟨g,cap,cur,e,_,hc,hle,hm,hs,ht⟩
 ·grind
 ·refine⟨_,cap,e,hle,Nat.le_trans hle hm,.inr ⟨g,cur,rfl,hc,hs,?_,hf g (by rw [e];rfl)⟩⟩
  refine RepVE.mono (Hle.refl _) es xs _ ?_ (fun n _=>EExt.refl E n) hr
  grind
theorem qFr (h:Ga C E σ a w) (hg:GOK gl C.E0.H) (hd:∀ d,o.dst=some d→d<C.nt) (hT:TOK P T) {t:Nat} {x i:Operand} (ho:o.op = .indexAddr t x i) {r:R} (hc:r.cond)
  (hs:qQb T note (σ.val gl) (qQc σ.objs) o.dst (.indexAddr t x i)=some r):Sound P C E σ a w o r:=by
 have hx:=qQd h hg x
 have nx:=qQi (gl:=gl) h x
 have hi:=qQd h hg i
 simp only [qQb,qJa] at hs
 split at hs
 ·rename_i k ek
  rw [ek] at hi
  have hi:=qZa hi
  split at hs
  ·rename_i e s1 s2 s3 s4 et
   obtain⟨d,hde,hk⟩:=(hT t _ et).desc
   simp only [qK9] at hk
   subst hk
   split at hs
   ·rename_i te ee
    have hte:=hT e te ee
    split at hs
    ·rename_i es ex
     rw [ex] at hx
     simp only [Option.some.injEq] at hs
     subst hs
     obtain⟨h0,h1,h2⟩:=hc
     simp only [RepV,RepP] at hx
     obtain⟨ad,cap,hv,hl,hm,hr⟩:=hx
     obtain⟨kn,rfl⟩:=Int.eq_ofNat_of_zero_le h0
     have hlt:kn<es.length:=by omega
     rcases hr with rfl|⟨b,off,rfl,hr⟩
     ·simp at hlt
     refine Sound.pure h (v:=.pointer (some ((⟨b,off,none⟩:Addr).add (kn * te.size)))) (.inl ?_) ?_ (by simp [V.names]) hd trivial
     ·simp [execOp,ho,Instr.indexAt,hi,asIntOf,run_underlying hde,hv,hlt,hte.run_size]
     ·rw [qJ9]
      simp only [RepV,RepP,Int.toNat_natCast]
      refine⟨b,off+kn * te.size,rfl,?_⟩
      rw [← List.drop_drop]
      exact hr.get h2 kn hlt
    ·rename_i n ver len ex
     rw [ex] at hx nx
     split at hs
     ·rename_i ver' sz ty es eo
      simp only [Option.some.injEq] at hs
      subst hs
      obtain⟨rfl,h0,h1,h2,h3⟩:=hc
      have hob:=h.objs n _ eo
      obtain⟨hver,hsz,_⟩:=id hob
      obtain⟨ad,cap,hgn,hlc,hlm,hh⟩:=qV8 hob
      simp only [RepV] at hx
      obtain⟨_,_,hx⟩:=hx
      obtain⟨ad',L,cap',hgn',hv,hle⟩:=hx hver.symm
      rw [hgn] at hgn'
      cases hgn'
      obtain⟨kn,rfl⟩:=Int.eq_ofNat_of_zero_le h0
      have hlt:kn<len:=by omega
      rcases hh with ⟨_,e0,_⟩|⟨b,cur,rfl,hcur,_⟩
      ·subst e0;simp at hle;omega
      refine Sound.pure h (v:=.pointer (some ((⟨b,0,none⟩:Addr).add (kn * te.size)))) (.inl ?_) ?_ ?_ hd trivial
      ·simp [execOp,ho,Instr.indexAt,hi,asIntOf,run_underlying hde,hv,hlt,hte.run_size]
      ·rw [qJ9]
       simp only [RepV,Int.toNat_natCast]
       refine⟨by omega,⟨_,rfl⟩,fun _=>⟨b,_,_,hgn,?_,by omega⟩⟩
       rw [hsz,h2];simp
      ·intro m hm
       simp only [V.names] at hm nx
       exact nx m hm
     ·cases hs
    ·cases hs
   ·cases hs
  ·rename_i m e s1 s2 s3 s4 et
   obtain⟨d,hde,hk⟩:=(hT t _ et).desc
   simp only [qK9] at hk
   subst hk
   split at hs
   ·rename_i te ee
    have hte:=hT e te ee
    cases ha:qVs (σ.val gl x) (k.toNat * te.size) with
    | none=>rw [ha] at hs;cases hs
    | some y =>
     rw [ha] at hs
     simp only [Option.map_some,Option.some.injEq] at hs
     subst hs
     obtain⟨h0,h1⟩:=hc
     obtain⟨ad,hv,hy,hny⟩:=qYf ha hx
     refine Sound.pure h (v:=.pointer (some (ad.add (k.toNat * te.size)))) (.inl ?_) hy (by rw [hny];exact nx) hd trivial
     simp [execOp,ho,Instr.indexAt,hi,asIntOf,run_underlying hde,hv,h0,h1,hte.run_size,Instr.sureAddr]
   ·cases hs
  ·cases hs
 ·cases hs
theorem qFs {agg:Bool} {n:Nat} {cs:List V} {x:V} {vs:List Value} (h:rdV agg n cs=some x) (hr:RepVL E cs vs) :
  (agg=true→n≤vs.length∧RepV E x (.agg (vs.take n).toArray))∧(agg=false→∃ v,vs[0]? = some v∧RepV E x v) ∧ ∀ m∈x.names,m∈qQg cs:=by
 unfold rdV at h
 split at h
 ·rename_i ha
  split at h
  ·cases h
   have hlen:=hr.len
   refine⟨fun _=>⟨by omega,qW6 (by simp;omega) (hr.take n)⟩,by simp [ha],?_⟩
   intro m hm
   have:=qJ8 _ m hm
   obtain⟨c,hc,hmc⟩:=mem_namesL.1 this
   exact mem_namesL.2 ⟨c,List.mem_of_mem_take hc,hmc⟩
  ·cases h
 ·rename_i ha
  split at h
  ·cases h
   cases vs with
   | nil=>grind [RepVL]
   | cons v vs =>
    exact⟨by simp [ha],fun _=>⟨v,rfl,hr.1⟩,fun m hm=>by simp [qQg,hm]⟩
  ·cases h
theorem qIn (h:Ga C E σ a w) (hg:GOK gl C.E0.H) (hd:∀ d,o.dst=some d→d<C.nt) (hT:TOK P T) {t:Nat} {x:Operand} (ho:o.op = .load t x) {r:R} (hc:r.cond)
  (hs:qQb T note (σ.val gl) (qQc σ.objs) o.dst (.load t x)=some r):Sound P C E σ a w o r:=by
 have hx:=qQd h hg x
 simp only [qQb] at hs
 split at hs
 ·rename_i ti et
  have hti:=hT t ti et
  unfold qJ7 at hs
  split at hs
  ·rename_i cs ex
   rw [ex] at hx
   simp only [RepV,RepP] at hx
   obtain⟨b,off,hv,hr⟩:=hx
   unfold rdP at hs
   split at hs
   ·rename_i ha
    simp only [Option.some.injEq] at hs
    subst hs
    have hc:ti.size≤cs.length:=hc
    have hlen:=hr.len
    by_cases hne:E.H b=[]
    ·rw [hne] at hr hlen
     simp only [List.drop_nil,List.length_nil,Nat.le_zero_eq] at hlen
     have h0:ti.size=0:=by omega
     have hcs:cs=[]:=List.eq_nil_of_length_eq_zero hlen
     subst hcs
     have hll:(loadCells ⟨b,off,none⟩ 0).run P w = .ok #[] w:=by rfl
     refine Sound.pure h (v:=.agg #[]) (.inl ?_) ?_ (by simp [V.names]) hd trivial
     ·simp [execOp,ho,hv,Instr.loadAt,Instr.sureAddr,loadVar,hti.run_agg,ha,hti.run_size,h0,hll]
     ·simp only [RepV,RepP];exact⟨[],rfl,by simp,by simp [RepL]⟩
    ·obtain⟨c,T',fr,hcell,hpre,_⟩:=h.heap b hne
     have hl2:((E.H b).drop off).length≤c.size-off:=by
      have:=hpre.1
      grind
     have hle:off+ti.size≤c.size∨ti.size=0:=by
      omega
     rcases hle with hle|h0
     ·refine Sound.pure h (v:=.agg ((c.toList.drop off).take ti.size).toArray) (.inl ?_) ?_ (by simp [V.names]) hd trivial
      ·simp [execOp,ho,hv,qZb hti ha hcell hle]
      ·simp only [RepV,RepP]
       refine⟨_,rfl,by simp;omega,?_⟩
       refine RepL.take _ (hr.msk (hpre.drop off))
     ·have hll:(loadCells ⟨b,off,none⟩ 0).run P w = .ok #[] w:=by rfl
      refine Sound.pure h (v:=.agg #[]) (.inl ?_) ?_ (by simp [V.names]) hd trivial
      ·simp [execOp,ho,hv,Instr.loadAt,Instr.sureAddr,loadVar,hti.run_agg,ha,hti.run_size,h0,hll]
      ·simp only [RepV,RepP];exact⟨[],rfl,by simp [h0],by simp [h0,RepL]⟩
   ·rename_i ha
    have ha:ti.isAgg=false:=by simp_all
    split at hs
    ·rename_i c cs'
     simp only [Option.some.injEq] at hs
     subst hs
     cases hdr:(E.H b).drop off with
     | nil=>rw [hdr] at hr;grind [RepL]
     | cons v vs =>
      rw [hdr] at hr
      simp only [RepL] at hr
      have hne:E.H b≠[]:=by grind
      obtain⟨cc,T',fr,hcell,hpre,_⟩:=h.heap b hne
      obtain⟨u,hget,hu⟩:∃ u,cc[off]? = some u∧RepP E.H c u:=by
       have h1:(E.H b)[off]? = some v:=by
        have:=congrArg (fun l=>l[0]?) hdr
        simpa using this
       rw [← Array.getElem?_toList]
       exact hpre.cell h1 (.inl hr.1)
      refine Sound.pure h (v:=u) (.inl ?_) (by simpa [RepV] using hu) (by simp [V.names]) hd trivial
      simp [execOp,ho,hv,qZc hti ha hcell hget]
    ·cases hs
  ·rename_i cs ex
   rw [ex] at hx
   simp only [RepV,RepP] at hx
   obtain⟨b,off,hv,hr⟩:=hx
   unfold rdP at hs
   split at hs
   ·rename_i ha
    simp only [Option.some.injEq] at hs
    subst hs
    have hc:ti.size≤cs.length:=hc
    have hlen:=hr.len
    by_cases hne:E.H b=[]
    ·rw [hne] at hr hlen
     simp only [List.drop_nil,List.length_nil,Nat.le_zero_eq] at hlen
     have h0:ti.size=0:=by omega
     have hcs:cs=[]:=List.eq_nil_of_length_eq_zero hlen
     subst hcs
     have hll:(loadCells ⟨b,off,none⟩ 0).run P w = .ok #[] w:=by simp [loadCells,loadCellsFrom]
     refine Sound.pure h (v:=.agg #[]) (.inl ?_) ?_ (by simp [V.names]) hd trivial
     ·simp [execOp,ho,hv,Instr.loadAt,Instr.sureAddr,loadVar,hti.run_agg,ha,hti.run_size,h0,hll]
     ·simp only [RepV,RepP];exact⟨[],rfl,by simp,by simp [RepL]⟩
    ·obtain⟨c,T',fr,hcell,hpre,_⟩:=h.heap b hne
     have hl2:((E.H b).drop off).length≤c.size-off:=by
      have:=hpre.1
      simp at this ⊢;omega
     have hle:off+ti.size≤c.size∨ti.size=0:=by
      by_cases h0:ti.size=0
      ·exact .inr h0
      ·left;omega
     rcases hle with hle|h0
     ·refine Sound.pure h (v:=.agg ((c.toList.drop off).take ti.size).toArray) (.inl ?_) ?_ (by simp [V.names]) hd trivial
      ·simp [execOp,ho,hv,qZb hti ha hcell hle]
      ·simp only [RepV,RepP]
       refine⟨_,rfl,by simp;omega,?_⟩
       refine RepL.take _ (hr.msk (hpre.drop off))
     ·have hll:(loadCells ⟨b,off,none⟩ 0).run P w = .ok #[] w:=by simp [loadCells,loadCellsFrom]
      refine Sound.pure h (v:=.agg #[]) (.inl ?_) ?_ (by simp [V.names]) hd trivial
      ·simp [execOp,ho,hv,Instr.loadAt,Instr.sureAddr,loadVar,hti.run_agg,ha,hti.run_size,h0,hll]
      ·simp only [RepV,RepP];exact⟨[],rfl,by simp [h0],by simp [h0,RepL]⟩
   ·rename_i ha
    have ha:ti.isAgg=false:=by simpa using ha
    split at hs
    ·rename_i c cs'
     simp only [Option.some.injEq] at hs
     subst hs
     cases hdr:(E.H b).drop off with
     | nil=>rw [hdr] at hr;simp [RepK] at hr
     | cons v vs =>
      rw [hdr] at hr
      have hr:=hr.uncons
      have hne:E.H b≠[]:=by intro e;rw [e] at hdr;simp at hdr
      obtain⟨cc,T',fr,hcell,hpre,_⟩:=h.heap b hne
      obtain⟨u,hget,hu⟩:∃ u,cc[off]? = some u∧RepP E.H c u:=by
       have h1:(E.H b)[off]? = some v:=by
        have:=congrArg (fun l=>l[0]?) hdr
        simpa using this
       rw [← Array.getElem?_toList]
       exact hpre.cell h1 hr.1
      refine Sound.pure h (v:=u) (.inl ?_) (by simpa [RepV] using hu) (by simp [V.names]) hd trivial
      simp [execOp,ho,hv,qZc hti ha hcell hget]
    ·cases hs
  ·rename_i n off ex
   rw [ex] at hx
   split at hs
   ·rename_i cs eo
    cases hrd:rdV ti.isAgg ti.size (cs.drop off) with
    | none=>rw [hrd] at hs;cases hs
    | some y =>
     rw [hrd] at hs
     simp only [Option.map_some,Option.some.injEq] at hs
     subst hs
     obtain⟨b,c,T',hgn,hcell,hsz,hr,_⟩:=h.objs n _ eo
     simp only [RepV] at hx
     obtain⟨b',hgn',hv⟩:=hx
     rw [hgn] at hgn'
     cases hgn'
     obtain⟨h1,h2,h3⟩:=qFs hrd (hr.drop off)
     have hnm:∀ m∈y.names,m∈σ.used:=by
      intro m hm
      obtain⟨c',hc',hm'⟩:=mem_namesL.1 (h3 m hm)
      exact (h.usedO n _ eo).2 m (mem_namesL.2 ⟨c',List.mem_of_mem_drop hc',hm'⟩)
     cases hagg:ti.isAgg with
     | true =>
      obtain⟨hle,hy⟩:=h1 hagg
      by_cases h0:off+ti.size≤c.size
      ·refine Sound.pure h (.inl ?_) hy hnm hd trivial
       simp [execOp,ho,hv,qZb hti hagg hcell h0]
      ·have h00:ti.size=0:=by simp at hle;omega
       have hll:(loadCells ⟨b,off,none⟩ 0).run P w = .ok #[] w:=by simp [loadCells,loadCellsFrom]
       rw [h00] at hy
       refine Sound.pure h (.inl ?_) hy hnm hd trivial
       simp [execOp,ho,hv,Instr.loadAt,Instr.sureAddr,loadVar,hti.run_agg,hagg,hti.run_size,h00,hll]
     | false =>
      obtain⟨v,hv0,hy⟩:=h2 hagg
      have hget:c[off]? = some v:=by simpa using hv0
      refine Sound.pure h (.inl ?_) hy hnm hd trivial
      simp [execOp,ho,hv,qZc hti hagg hcell hget]
   ·cases hs
  ·rename_i n ver i off ex
   rw [ex] at hx
   split at hs
   ·rename_i ver' sz ty es eo
    split at hs
    ·rename_i e ee
     cases hrd:rdV ti.isAgg ti.size (e.drop off) with
     | none=>rw [hrd] at hs;cases hs
     | some y =>
      rw [hrd] at hs
      simp only [Option.map_some,Option.some.injEq] at hs
      subst hs
      have hc:ver=ver':=hc
      subst hc
      have hob:=h.objs n _ eo
      obtain⟨hver,hsz,hlen,_⟩:=id hob
      obtain⟨ad,cap,hgn,hlc,hlm,hh⟩:=qV8 hob
      simp only [RepV] at hx
      obtain⟨_,_,hx⟩:=hx
      obtain⟨b',L,cap',hgn',hv,hlt⟩:=hx hver.symm
      rw [hgn] at hgn'
      cases hgn'
      rcases hh with ⟨e0,_⟩|⟨b,c,hb,hcell,hcs,hr,_⟩
      ·cases e0
      cases hb
      have hi:i<es.length:=by rw [List.getElem?_eq_some_iff] at ee;exact ee.1
      have hre:=hr.get hlen i hi
      have hge:es.getD i []=e:=by simp [List.getD,ee]
      rw [hge] at hre
      have hre:=hre.drop off
      rw [List.drop_drop] at hre
      obtain⟨h1,h2,h3⟩:=qFs hrd hre
      have hnm:∀ m∈y.names,m∈σ.used:=by
       intro m hm
       obtain⟨c',hc',hm'⟩:=mem_namesL.1 (h3 m hm)
       exact (h.usedO n _ eo).2 m (mem_namesE.2 ⟨e,List.mem_of_getElem? ee,mem_namesL.2 ⟨c',List.mem_of_mem_drop hc',hm'⟩⟩)
      rw [hsz] at hv
      cases hagg:ti.isAgg with
      | true =>
       obtain⟨hle,hy⟩:=h1 hagg
       by_cases h0:i * sz+off+ti.size≤c.size
       ·refine Sound.pure h (.inl ?_) hy hnm hd trivial
        simp [execOp,ho,hv,qZb hti hagg hcell h0]
       ·have h00:ti.size=0:=by simp at hle;omega
        have hll:(loadCells ⟨b',i * sz+off,none⟩ 0).run P w = .ok #[] w:=by simp [loadCells,loadCellsFrom]
        rw [h00] at hy
        refine Sound.pure h (.inl ?_) hy hnm hd trivial
        simp [execOp,ho,hv,Instr.loadAt,Instr.sureAddr,loadVar,hti.run_agg,hagg,hti.run_size,h00,hll]
      | false =>
       obtain⟨v,hv0,hy⟩:=h2 hagg
       have hget:c[i * sz+off]? = some v:=by simpa using hv0
       refine Sound.pure h (.inl ?_) hy hnm hd trivial
       simp [execOp,ho,hv,qZc hti hagg hcell hget]
    ·cases hs
   ·cases hs
  ·cases hs
 ·cases hs
end
section
variable {P:Program} {C:Ctx} {E:Env} {σ:St} {a:Act} {w:World} {gl:Nat→Option (List PV)} {o:Oper} {T:Nat→Option TI} {note:qXa}
theorem qXy {n ver len sz ty:Nat} {es:List (List V)} (hob:ObOK E w n (.arr ver sz ty es)) {v:Value} (hx:RepV E (.arr n ver len) v) :
  ∃ ad cap,E.g n = .slice ad es.length cap∧v = .slice ad len cap∧len≤es.length∧es.length≤cap∧es.length≤maxLen:=by
 obtain⟨hver,_⟩:=id hob
 grind [qV8,RepV]
theorem qL5 (h:Ga C E σ a w) (hg:GOK gl C.E0.H) (hd:∀ d,o.dst=some d→d<C.nt) (hT:TOK P T) {args:Array Operand} {argTypes:Array Nat} (ho:o.op = .call { callee:=.builtin .len,args,argTypes }) {r:R} (hc:r.cond)
  (hs:qQb T note (σ.val gl) (qQc σ.objs) o.dst (.call { callee:=.builtin .len,args,argTypes })=some r):Sound P C E σ a w o r:=by
 simp only [qQb] at hs
 split at hs
 ·rename_i t x et ex
  have hat:argTypes = #[t]:=by rw [← Array.toArray_toList (xs:=argTypes),et]
  have hax:args = #[x]:=by rw [← Array.toArray_toList (xs:=args),ex]
  subst hat hax
  have hx:=qQd h hg x
  split at hs
  ·rename_i e s1 s2 s3 s4 et
   obtain⟨d,hde,hk⟩:=(hT t _ et).desc
   simp only [qK9] at hk
   subst hk
   have hrun:∀ ad n c,a.eval x = .slice ad n c→OpRes P o a w (.int .i64 n) w:=by
    intro ad n c hv
    refine .inl ?_
    simp [execOp,ho,resolve,invoke,builtin,Builtin.len_,hv,run_underlying hde,goInt]
   unfold qWt at hs
   split at hs
   ·grind [RepV,RepP,qJ2]
   ·rename_i ex
    rw [ex] at hx
    simp only [RepV,RepP] at hx
    cases hs
    exact qJ2 h hd (hrun _ _ _ hx) trivial
   ·grind [RepV,RepP,qJ2]
   ·rename_i n ver len ex
    rw [ex] at hx
    split at hs
    ·rename_i ver' sz ty es eo
     cases hs
     have hc:ver=ver':=hc
     subst hc
     obtain⟨ad,cap,hgn,hv,hle,_,hm⟩:=qXy (h.objs n _ eo) hx
     grind [qJ2]
    ·cases hs
   ·cases hs
  ·rename_i k v sk s1 s2 s3 s4 et
   obtain⟨d,hde,hk⟩:=(hT t _ et).desc
   simp only [qK9] at hk
   obtain⟨rfl,_⟩:=hk
   unfold qW4 at hs
   split at hs
   ·rename_i n ex
    rw [ex] at hx
    simp only [RepV] at hx
    obtain⟨b,hgn,hv⟩:=hx
    split at hs
    ·rename_i s' es eo
     cases hs
     obtain⟨b',ms,ck,hgn',hcell,_,hents,_⟩:=h.objs n _ eo
     rw [hgn] at hgn'
     cases hgn'
     refine qJ2 h hd (.inl ?_) trivial
     have hl:=hents.length
     have hget:(getObj b).run P w = .ok (.map ms ck) w:=by simp [getObj,Sem.run,hcell]
     simp [execOp,ho,resolve,invoke,builtin,Builtin.len_,hv,run_underlying hde,goInt,hget,hl]
    ·cases hs
   ·cases hs
  ·rename_i s1 s2 s3 s4 et
   obtain⟨d,hde,hk⟩:=(hT t _ et).desc
   simp only [qK9] at hk
   subst hk
   unfold qBo at hs
   split at hs
   ·rename_i l ex
    rw [ex] at hx
    cases hs
    refine qJ2 h hd (.inl ?_) trivial
    simp [execOp,ho,resolve,invoke,builtin,hx.1,run_len_string,hde,ByteArray.size,goInt]
   ·cases hs
  ·cases hs
 ·cases hs
theorem qDq {t e:Nat} {te:TI} (hte:TIOK P e te) (hde:P.underlying t=some (.slice e)) {ad:Option Addr} {len cap l:Nat} (hl:l≤len) :
  (Instr.sliceAt t (.slice ad len cap) (some (.int .i64 l)) none none).run P w = .ok (.slice (if cap=l then ad else ad.map (·.add (l * te.size))) (len-l) (cap-l)) w:=by
 simp [Instr.sliceAt,run_underlying hde,Instr.slice,Instr.sliceBounds,Instr.sliceBound,asIntOf,hl,hte.run_size]
theorem qXb {t e:Nat} {te:TI} (hte:TIOK P e te) (hde:P.underlying t=some (.slice e)) {ad:Option Addr} {len cap k:Nat} (hk:k≤cap) :
  (Instr.sliceAt t (.slice ad len cap) none (some (.int .i64 k)) none).run P w = .ok (.slice ad k cap) w:=by
 have hm:ad.map (fun x=>x.add 0)=ad:=by cases ad<;>simp [Addr.add]
 simp [Instr.sliceAt,run_underlying hde,Instr.slice,Instr.sliceBounds,Instr.sliceBound,asIntOf,hk,hte.run_size,hm]
theorem qAg {t e:Nat} {te:TI} (hte:TIOK P e te) (hde:P.underlying t=some (.slice e)) {ad:Option Addr} {len cap:Nat} (hk:len≤cap) :
  (Instr.sliceAt t (.slice ad len cap) none (some (.int .i64 len)) (some (.int .i64 len))).run P w = .ok (.slice ad len len) w:=by
 have hm:ad.map (fun x=>x.add 0)=ad:=by cases ad<;>simp [Addr.add]
 simp [Instr.sliceAt,run_underlying hde,Instr.slice,Instr.sliceBounds,Instr.sliceBound,asIntOf,hk,hte.run_size,hm]
theorem qAh {t:Nat} (hde:P.underlying t=some .string) {l:List Nat} {lo hi:Option Value} {a b:Int} (hlo:lo=none∧a=0∨lo=some (.int .i64 a)) (hhi:hi=none∧b=l.length∨hi=some (.int .i64 b)) (h0:0≤a) (h1:a≤b) (h2:b≤l.length) :
  (Instr.sliceAt t (.string ⟨(l.map UInt8.ofNat).toArray⟩) lo hi none).run P w = .ok (.string ⟨(((l.drop a.toNat).take (b-a).toNat).map UInt8.ofNat).toArray⟩) w:=by
 obtain⟨i,rfl⟩:=Int.eq_ofNat_of_zero_le h0
 obtain⟨j,rfl⟩:=Int.eq_ofNat_of_zero_le (show 0≤b by omega)
 have hs:(⟨(l.map UInt8.ofNat).toArray⟩:ByteArray).size=l.length:=by simp [ByteArray.size]
 have hij:i≤j:=by omega
 have hjl:j≤l.length:=by omega
 have hb:(Instr.sliceBounds false l.length l.length lo hi none).run P w = .ok (i,j,l.length) w:=by
  rcases hlo with ⟨rfl,e1⟩|rfl<;>rcases hhi with ⟨rfl,e2⟩|rfl
  ·have e1:i=0:=by omega
   have e2:j=l.length:=by omega
   subst e1 e2
   rfl
  ·have e1:i=0:=by omega
   subst e1
   simp [Instr.sliceBounds,Instr.sliceBound,asIntOf,hjl]
  ·have e2:j=l.length:=by omega
   subst e2
   simp [Instr.sliceBounds,Instr.sliceBound,asIntOf,hij]
  ·simp [Instr.sliceBounds,Instr.sliceBound,asIntOf,hjl,hij]
 have hx:=ByteArray.extract_mk (l.map UInt8.ofNat) i j
 simp only [Instr.sliceAt,Sem.run_bind,run_underlying hde,Result.andThen_ok,Instr.slice,hs]
 simp_all
theorem qFt (h:Ga C E σ a w) (hg:GOK gl C.E0.H) (hd:∀ d,o.dst=some d→d<C.nt) (hT:TOK P T) {t:Nat} {x:Operand} {lo hi mx:Option Operand} (ho:o.op = .slice t x lo hi mx) {r:R} (hc:r.cond)
  (hs:qQb T note (σ.val gl) (qQc σ.objs) o.dst (.slice t x lo hi mx)=some r):Sound P C E σ a w o r:=by
 have hx:=qQd h hg x
 have nx:=qQi (gl:=gl) h x
 simp only [qQb] at hs
 split at hs
 ·rename_i e s1 s2 s3 s4 et
  obtain⟨d,hde,hk⟩:=(hT t _ et).desc
  simp only [qK9] at hk
  subst hk
  split at hs
  ·rename_i te ee
   have hte:=hT e te ee
   unfold qJb at hs
   split at hs
   ·rename_i es l ex el eh em
    rw [ex] at hx
    simp only [RepV,RepP] at hx
    obtain⟨ad,cap,hv,hlc,hm,hr⟩:=hx
    cases hs
    obtain⟨h0,h1,h2⟩:=hc
    cases lo with
    | none=>cases el
    | some lo =>
     simp only [Option.map_some,Option.some.injEq] at el
     have hlo:=qQd h hg lo
     rw [el] at hlo
     have hlo:=qZa hlo
     cases hi with
     | some _=>cases eh
     | none =>
      cases mx with
      | some _=>cases em
      | none =>
       obtain⟨l,rfl⟩:=Int.eq_ofNat_of_zero_le h0
       have hll:l≤es.length:=by omega
       refine Sound.pure h (v:=.slice (if cap=l then ad else ad.map (·.add (l * te.size))) (es.length-l) (cap-l)) (.inl ?_) ?_ (by simp [V.names]) hd trivial
       ·simp only [execOp,ho,Option.map_some,Option.map_none,hv,hlo]
        simp [qDq hte hde hll]
       ·simp only [RepV,RepP,Int.toNat_natCast,List.length_drop]
        refine⟨_,_,rfl,by omega,by omega,?_⟩
        rcases hr with rfl|⟨b,off,rfl,hr⟩
        ·simp
        ·by_cases he:l=es.length
         ·simp_all
         ·right
          have hne:¬ cap=l:=by omega
          refine⟨b,off+l * te.size,?_,?_⟩
          ·grind [qJ9]
          ·rw [← List.drop_drop]
           exact hr.dropE h2 l
   ·rename_i es k ex el eh em
    rw [ex] at hx
    simp only [RepV,RepP] at hx
    obtain⟨ad,cap,hv,hlc,hm,hr⟩:=hx
    cases hs
    obtain⟨h0,h1⟩:=hc
    cases hi with
    | none=>cases eh
    | some hi =>
     simp only [Option.map_some,Option.some.injEq] at eh
     have hhi:=qQd h hg hi
     rw [eh] at hhi
     have hhi:=qZa hhi
     cases lo with
     | some _=>cases el
     | none =>
      cases mx with
      | some _=>cases em
      | none =>
       obtain⟨k,rfl⟩:=Int.eq_ofNat_of_zero_le h0
       have hkk:k≤es.length:=by omega
       refine Sound.pure h (v:=.slice ad k cap) (.inl ?_) ?_ (by simp [V.names]) hd trivial
       ·simp only [execOp,ho,Option.map_some,Option.map_none,hv,hhi]
        simp [qXb hte hde (show k≤cap by omega)]
       ·simp only [RepV,RepP,Int.toNat_natCast]
        have hkl:(es.take k).length=k:=by simp;omega
        refine⟨_,_,by rw [hkl],by omega,by omega,?_⟩
        rcases hr with rfl|⟨b,off,rfl,hr⟩
        ·simp
        ·exact .inr ⟨b,off,rfl,hr.takeE k⟩
   ·rename_i n ver len k ex el eh em
    rw [ex] at hx nx
    split at hs
    ·rename_i ver' sz ty es eo
     cases hs
     obtain⟨rfl,h0,h1⟩:=hc
     have hob:=h.objs n _ eo
     obtain⟨hver,_⟩:=id hob
     obtain⟨ad,cap,hgn,hv,hle,hlc,hm⟩:=qXy hob hx
     cases hi with
     | none=>cases eh
     | some hi =>
      simp only [Option.map_some,Option.some.injEq] at eh
      have hhi:=qQd h hg hi
      rw [eh] at hhi
      have hhi:=qZa hhi
      cases lo with
      | some _=>cases el
      | none =>
       cases mx with
       | some _=>cases em
       | none =>
        obtain⟨k,rfl⟩:=Int.eq_ofNat_of_zero_le h0
        refine Sound.pure h (v:=.slice ad k cap) (.inl ?_) ?_ ?_ hd trivial
        ·simp only [execOp,ho,Option.map_some,Option.map_none,hv,hhi]
         simp [qXb hte hde (show k≤cap by omega)]
        ·simp only [RepV,Int.toNat_natCast]
         exact⟨by omega,⟨_,_,_,rfl⟩,fun _=>⟨ad,_,cap,hgn,rfl,by omega⟩⟩
        ·intro m hm
         simp only [V.names] at hm nx
         exact nx m hm
    ·cases hs
   ·rename_i es k k2 ex el eh em
    rw [ex] at hx
    simp only [RepV,RepP] at hx
    obtain⟨ad,cap,hv,hlc,hm,hr⟩:=hx
    cases hs
    obtain⟨h0,h1⟩:=hc
    subst h0 h1
    cases hi with
    | none=>cases eh
    | some hi =>
     simp only [Option.map_some,Option.some.injEq] at eh
     have hhi:=qQd h hg hi
     rw [eh] at hhi
     have hhi:=qZa hhi
     cases lo with
     | some _=>cases el
     | none =>
      cases mx with
      | none=>cases em
      | some mx =>
       simp only [Option.map_some,Option.some.injEq] at em
       have hmx:=qQd h hg mx
       rw [em] at hmx
       have hmx:=qZa hmx
       refine Sound.pure h (v:=.slice ad es.length es.length) (.inl ?_) ?_ (by simp [V.names]) hd trivial
       ·simp only [execOp,ho,Option.map_some,Option.map_none,hv,hhi,hmx]
        simp [qAg hte hde hlc]
       ·simp only [RepV]
        exact⟨ad,rfl,hm,hr⟩
   ·rename_i ex
    rw [ex] at hx
    simp only [RepV,RepP] at hx
    obtain⟨hb,hs⟩:=qL0 hs
    cases hs
    simp only [Bool.and_eq_true] at hb
    have hz:∀ q:Option Operand,qBm (q.map (σ.val gl))=true→q=none ∨ ∃ q',q=some q'∧a.eval q' = .int .i64 0:=by
     intro q hq
     cases q with
     | none=>exact .inl rfl
     | some q =>
      right
      refine⟨q,rfl,?_⟩
      have hr:=qQd h hg q
      simp only [Option.map_some] at hq
      unfold qBm at hq
      split at hq
      ·rename_i e;cases e
      ·rename_i e
       simp only [Option.some.injEq] at e
       rw [e] at hr
       exact qZa hr
      ·cases hq
    have run0:∀ l h m:Option Value,(l=none∨l=some (.int .i64 0))→(h=none∨h=some (.int .i64 0))→(m=none∨m=some (.int .i64 0))→(m.isSome=true→h.isSome=true) →
      (Instr.sliceAt t (.slice none 0 0) l h m).run P w = .ok (.slice none 0 0) w:=by
     intro l h m hl hh hm hmh
     rcases hl with rfl|rfl<;>rcases hh with rfl|rfl<;>rcases hm with rfl|rfl <;>
      first
       | (simp at hmh;done)
       | simp [Instr.sliceAt,run_underlying hde,Instr.slice,Instr.sliceBounds,Instr.sliceBound,asIntOf,hte.run_size]
    have hq:∀ q:Option Operand,qBm (q.map (σ.val gl))=true→q.map a.eval=none∨q.map a.eval=some (.int .i64 0):=by
     intro q h
     rcases hz q h with rfl|⟨q',rfl,e⟩
     ·exact .inl rfl
     ·exact .inr (by rw [Option.map_some,e])
    refine Sound.pure h (v:=.slice none 0 0) (.inl ?_) (by simp [RepV,RepP]) (by simp [V.names]) hd trivial
    have hr:=run0 (lo.map a.eval) (hi.map a.eval) (mx.map a.eval) (hq lo hb.1.1.1) (hq hi hb.1.1.2) (hq mx hb.1.2) (by
     intro hm
     have:=hb.2
     cases mx<;>cases hi<;>simp_all)
    simp only [execOp,ho,hx]
    simp [hr]
   ·cases hs
  ·cases hs
 ·rename_i s1 s2 s3 s4 et
  obtain⟨d,hde,hk⟩:=(hT t _ et).desc
  simp only [qK9] at hk
  subst hk
  unfold qV6 at hs
  split at hs
  ·rename_i l ex em
   rw [ex] at hx
   simp only [RepV,RepP] at hx
   split at hs
   ·rename_i a' b' ea eb
    cases hs
    obtain⟨h0,h1,h2⟩:=hc
    have hbd:∀ (q:Option Operand) (d0 c:Int),qW5 d0 (q.map (σ.val gl))=some c→(q.map a.eval=none∧c=d0)∨q.map a.eval=some (.int .i64 c):=by
     intro q d0 c hq
     cases q with
     | none=>simp only [Option.map_none,qW5,Option.some.injEq] at hq;exact .inl ⟨rfl,hq.symm⟩
     | some q =>
      right
      have hr:=qQd h hg q
      simp only [Option.map_some] at hq ⊢
      cases e:σ.val gl q with
      | pv p =>
       rw [e] at hq hr
       cases p<;>simp only [qW5,Option.some.injEq,reduceCtorEq] at hq
       subst hq
       rw [qZa hr]
      | _=>rw [e] at hq;simp [qW5] at hq
    have hmx:mx=none:=by cases mx<;>simp at em;rfl
    subst hmx
    have hr:=qAh (P:=P) (w:=w) hde (l:=l) (hbd lo 0 a' ea) (hbd hi l.length b' eb) h0 h1 h2
    refine Sound.pure h (v:=.string ⟨(((l.drop a'.toNat).take (b'-a').toNat).map UInt8.ofNat).toArray⟩) (.inl ?_) ?_ (by simp [V.names]) hd trivial
    ·simp only [execOp,ho,Option.map_none,hx.1]
     simp [hr]
    ·exact⟨by first|rfl|trivial,fun b hb=>hx.2 b (List.mem_of_mem_drop (List.mem_of_mem_take hb))⟩
   ·cases hs
  ·cases hs
 ·cases hs
theorem qDr (h:Ga C E σ a w) (hg:GOK gl C.E0.H) (hd:∀ d,o.dst=some d→d<C.nt) (hT:TOK P T) {t:Nat} {x i:Operand} (ho:o.op = .index t x i) {r:R} (hc:r.cond)
  (hs:qQb T note (σ.val gl) (qQc σ.objs) o.dst (.index t x i)=some r):Sound P C E σ a w o r:=by
 have hx:=qQd h hg x
 have hi:=qQd h hg i
 simp only [qQb] at hs
 split at hs
 ·rename_i s1 s2 s3 s4 et
  obtain⟨d,hde,hk⟩:=(hT t _ et).desc
  subst hk
  unfold qKt at hs
  split at hs
  ·rename_i l k ex ei
   rw [ex] at hx
   rw [ei] at hi
   simp only [RepV,RepP] at hx
   have hi:=qZa hi
   cases hs
   obtain⟨h0,h1⟩:=hc
   obtain⟨k,rfl⟩:=Int.eq_ofNat_of_zero_le h0
   have hk:k<l.length:=by omega
   have hsz:(⟨(l.map UInt8.ofNat).toArray⟩:ByteArray).size=l.length:=by simp [ByteArray.size]
   have hg':(⟨(l.map UInt8.ofNat).toArray⟩:ByteArray)[k]? = some (UInt8.ofNat l[k]):=by
    rw [ByteArray.getElem?_lt' _ _ (by rw [hsz];exact hk)]
    simp [ByteArray.getElem_eq_getElem_data]
   have hb:(UInt8.ofNat l[k]).toNat=l[k]:=by simp_all
   refine Sound.pure h (v:=.int .u8 l[k]) (.inl ?_) ?_ (by simp [V.names]) hd trivial
   ·simp [execOp,ho,hx.1,hi,Instr.index,asIntOf,Sem.run_bind,run_underlying hde,hg',hb]
   grind [RepV,RepP,Int.toNat_natCast]
  ·cases hs
 ·rename_i n e s1 s2 s3 s4 et
  obtain⟨d,hde,hk⟩:=(hT t _ et).desc
  simp only [qK9] at hk
  subst hk
  split at hs
  ·rename_i te ee
   have hte:=hT e te ee
   unfold qV5 at hs
   split at hs
   ·rename_i cs k ex ei
    rw [ex] at hx
    rw [ei] at hi
    simp only [RepV,RepP] at hx
    obtain⟨vs,hv,hl,hr⟩:=hx
    have hi:=qZa hi
    split at hs
    ·rename_i ha
     cases hs
     obtain⟨h0,h1,h2⟩:=hc
     obtain⟨k,rfl⟩:=Int.eq_ofNat_of_zero_le h0
     have h2:k * te.size+te.size≤cs.length:=h2
     have h3:k<n:=by omega
     refine Sound.pure h (v:=.agg ((vs.drop (k * te.size)).take te.size).toArray) (.inl ?_) ?_ (by simp [V.names]) hd trivial
     ·have he:vs.toArray.extract (k * te.size) (k * te.size+te.size)=((vs.drop (k * te.size)).take te.size).toArray:=by simp
      simp [execOp,ho,hv,hi,Instr.index,asIntOf,Sem.run_bind,run_underlying hde,h3,part,hte.run_agg,hte.run_size,ha,he]
     ·simp only [RepV,RepP]
      refine⟨_,rfl,?_,(hr.drop _).take _⟩
      simp [hl]
    ·cases hs
   ·cases hs
  ·cases hs
 ·cases hs
end
section
variable {P:Program} {C:Ctx} {E:Env} {σ:St} {a:Act} {w:World} {gl:Nat→Option (List PV)} {o:Oper} {T:Nat→Option TI} {note:qXa}
theorem Hle.zero (H:Hp):Hle (fun _=>[]) H:=fun _=>List.nil_prefix
theorem qZz (hh:HeapOK E w) (ob:Obj) (E':Env) (hE:E'.H=E.H):HeapOK E' (w.alloc ob):=by
 intro b hb
 rw [hE] at hb ⊢
 obtain⟨c,T,fr,hc,hp⟩:=hh b hb
 exact⟨c,T,fr,by rw [heap_alloc_old w ob b (Array.getElem?_eq_some_iff.1 hc).1];exact hc,hp⟩
theorem Sound.newBox (h:Ga C E σ a w) (hd:∀ d,o.dst=some d→d<C.nt) {n t:Nat} {cs:List V} {c:Array Value} {cd:Prop} (hn:n ∉ σ.used)
  (hl:c.size=cs.length) (hr:RepVL E cs c.toList) (hnm:∀ m∈qQg cs,m∈σ.used)
  (hrun:OpRes P o a w (.pointer (some ⟨w.heap.size,0,none⟩)) (w.alloc (.cells c t))) :
  Sound P C E σ a w o ⟨cd,True,.loc n 0,some (n,.box cs),true⟩:=by
 let E':Env:={ E with g:=fun m=>if m=n then .pointer (some ⟨w.heap.size,0,none⟩) else E.g m }
 have hg':E'.g n = .pointer (some ⟨w.heap.size,0,none⟩):=by simp [E']
 have hE:∀ m,m≠n→E'.g m=E.g m∧E'.ver m=E.ver m∧E'.sz m=E.sz m:=fun m hm=>⟨by grind,rfl,rfl⟩
 refine⟨_,_,E',hrun,?_,trivial⟩
 refine h.change (E':=E') n (some (.box cs)) (qKp σ.objs n (.box cs)) (n::σ.used) o.dst (.loc n 0) _ (fun m=>qQm _ _ _ _) (Hle.refl _) hE (fun hk=>absurd hk hn) (fun hk=>absurd hk hn)
  (by simp) ⟨rfl,rfl,rfl⟩ (fun b hb _=>⟨heap_alloc_old w _ b hb,rfl⟩) (qZz h.heap _ E' rfl) ?_ ?_ (fun m hm=>by simp [hm]) ?_ ?_ hd
 ·intro o' e
  cases e
  refine⟨⟨w.heap.size,c,t,hg',heap_alloc_new w _,hl,?_,h.heap.lt (Nat.le_refl _)⟩,by simp,fun m hm=>by grind [Ob.names]⟩
  refine RepVL.mono (E:=E) (E':=E') (Hle.refl E.H) cs _ _ List.prefix_rfl (fun m hm => ?_) hr
  grind [EExt.of_eq]
 ·grind [blk]
 ·exact⟨_,hg',rfl⟩
 ·simp [V.names]
theorem Ga.newRow (h:Ga C E σ a w) {dst:Option Nat} (hd:∀ d,dst=some d→d<C.nt) (t:Nat) (c:Array Value) {x:V} {v:Value} (hx:∀ H',Hle E.H H'→H' w.heap.size=c.toList.map sn→RepV { E with H:=H' } x v)
  (hxn:∀ n∈x.names,n∈σ.used):∃ E',Ga C E' ⟨qAd dst x σ.slots,σ.objs,σ.used⟩ (a.put dst v) (w.alloc (.cells c t)):=by
 let H':Hp:=fun b=>if b=w.heap.size then c.toList.map sn else E.H b
 have h0:E.H w.heap.size=[]:=h.heap.lt (Nat.le_refl _)
 have hH:Hle E.H H':=by
  intro b
  grind
 have hnew:H' w.heap.size=c.toList.map sn:=by simp [H']
 refine⟨{ E with H:=H' },?_⟩
 refine h.pure H' dst x v hH (by simp) ⟨rfl,rfl,rfl⟩ (fun b hb=>⟨heap_alloc_old w _ b hb,?_⟩) ?_ (hx H' hH hnew) hxn hd
 ·grind
 ·intro b hb
  by_cases e:b=w.heap.size
  ·subst e
   refine⟨c,t,(0,0),heap_alloc_new w _,?_,.inl rfl⟩
   grind [Msk,Msk.sn]
  ·have hb':E.H b≠[]:=by grind
   obtain⟨c',T',fr,hc,hp⟩:=h.heap b hb'
   refine⟨c',T',fr,?_,by grind,by grind⟩
   rw [heap_alloc_old w _ b (Array.getElem?_eq_some_iff.1 hc).1]
   exact hc
theorem Ga.drew (h:Ga C E σ a w):Ga C E σ a w.drew :=
 ⟨h.slots,h.size,h.defers,h.heap,h.objs,h.apart,h.usedS,h.usedO,h.usedG,h.grown,h.rest,h.same,h.hle,h.own,h.ext,h.keep⟩
theorem Sound.newRow (h:Ga C E σ a w) (hd:∀ d,o.dst=some d→d<C.nt) {t:Nat} {c:Array Value} {cd:Prop} {x:V} {v:Value} (hx:∀ H',Hle E.H H'→H' w.heap.size=c.toList.map sn→RepV { E with H:=H' } x v)
  (hxn:∀ n∈x.names,n∈σ.used) (hrun:OpRes P o a w v (w.alloc (.cells c t))):Sound P C E σ a w o ⟨cd,True,x,none,false⟩:=by
 obtain⟨E',h'⟩:=h.newRow hd t c hx hxn
 exact⟨v,_,E',hrun,h',trivial⟩
theorem qV9 {x:V} {cs:List V} {v:Value} (h:qJz x=some cs) (hx:RepV E x v):v.cells.size=cs.length∧RepVL E cs v.cells.toList ∧ ∀ m∈qQg cs,m∈x.names:=by
 have one:∀ v':Value,(∀ c,v' ≠ .agg c)→v'.cells = #[v']:=by intro v' hv';cases v'<;>first|rfl|simp_all
 unfold qJz at h
 split at h
 ·cases h
  obtain⟨vs,rfl,hl,hr⟩:=hx
  refine⟨by simpa [Value.cells] using hl,by have:=RepVL.ofPv hr;simp only [pvL] at this;simpa [Value.cells] using this,?_⟩
  intro m hm
  have:=qJ0
  simp only [pvL] at this
  rw [this] at hm
  simp at hm
 ·cases h
 ·cases h
  obtain⟨vs,rfl,hl,hr⟩:=hx
  exact⟨by simpa [Value.cells] using hl,by simpa [Value.cells] using hr,fun m hm=>by grind [V.names]⟩
 ·cases h
 ·cases h
 ·cases h
  have hv:∀ c,v ≠ .agg c:=by
   intro c e
   subst e
   cases x with
   | undef=>simp_all
   | pv p =>
    cases p with
    | agg cs=>simp_all
    | tuple cs=>simp_all
    | slice es=>grind [RepV,RepP]
    | ptr es=>grind [RepV,RepP]
    | iface t p=>grind [RepV,RepP]
    | nptr es=>grind [RepV,RepP]
    | num k n=>grind [RepV,RepP]
    | flg b=>grind [RepV,RepP]
    | _=>simp [RepV,RepP] at hx
   | agg cs=>simp_all
   | tuple cs=>simp_all
   | fn f cs=>grind [RepV]
   | bfn f cs=>grind [RepV]
   | loc n off=>grind [RepV]
   | eloc n ver i off=>grind [RepV]
   | arr n ver len=>grind [RepV]
   | vsl es=>grind [RepV]
   | fsl es=>grind [RepV]
   | gsl n ver es=>grind [RepV,RepP]
   | map n=>grind [RepV]
  rw [one v hv]
  exact⟨rfl,by grind [RepVL],fun m hm=>by grind [qQg]⟩
theorem qIo {H:Hp} {p:PV} {cs:List PV} {v:Value} (h:qLy p=some cs) (hx:RepP H p v):v.cells.size=cs.length∧RepL H cs v.cells.toList:=by
 unfold qLy at h
 split at h
 ·cases h
  obtain⟨vs,rfl,hl,hr⟩:=hx
  exact⟨by simpa [Value.cells] using hl,by simpa [Value.cells] using hr⟩
 ·cases h
 ·cases h
  have:v.cells = #[v]:=by
   cases p with
   | agg cs=>simp_all
   | tuple cs=>simp_all
   | slice es=>obtain⟨_,_,rfl,_⟩:=hx;rfl
   | ptr es=>obtain⟨_,_,rfl,_⟩:=hx;rfl
   | iface t p=>obtain⟨_,rfl,_⟩:=hx;rfl
   | nptr es=>obtain⟨_,_,rfl,_⟩:=hx;rfl
   | num k n=>rw [hx.1];rfl
   | str l=>rw [hx.1];rfl
   | flg b=>obtain⟨_,rfl,_⟩:=hx;rfl
   | _=>subst hx;rfl
  rw [this]
  exact⟨rfl,by grind [RepL]⟩
theorem qFu (h:Ga C E σ a w) (hd:∀ d,o.dst=some d→d<C.nt) (hT:TOK P T) {t:Nat} (ho:o.op = .alloc t) {r:R} {val:Operand→V} {ob:Nat→Option Ob}
  (hs:qQb T note val ob o.dst (.alloc t)=some r) (hn:∀ n x,r.wr=some (n,x)→r.new=true→n ∉ σ.used):Sound P C E σ a w o r:=by
 have key:∀ (ti:TI) (n:Nat),T t=some ti→n ∉ σ.used→Sound P C E σ a w o ⟨True,True,.loc n 0,some (n,.box (pvL ti.zc)),true⟩:=by
  intro ti n et hn
  have hti:=hT t ti et
  refine Sound.newBox h hd (t:=t) (c:=ti.zero.cells) hn (by rw [hti.zlen,pvL,List.length_map,hti.zc]) ?_ (by simp [qJ0]) (.inl ?_)
  ·exact RepVL.ofPv (RepL.mono (Hle.zero _) _ _ _ List.prefix_rfl hti.zcells)
  ·simp [execOp,ho,Instr.alloc,hti.run_zero,newVar,newRow]
 simp only [qQb] at hs
 grind
theorem qL6 (h:Ga C E σ a w) (hg:GOK gl C.E0.H) (hd:∀ d,o.dst=some d→d<C.nt) {t:Nat} {x:Operand} (ho:o.op = .box t x) {r:R} {ob:Nat→Option Ob}
  (hs:qQb T note (σ.val gl) ob o.dst (.box t x)=some r) (hn:∀ n x,r.wr=some (n,x)→r.new=true→n ∉ σ.used):Sound P C E σ a w o r:=by
 have hx:=qQd h hg x
 have nx:=qQi (gl:=gl) h x
 have hrun:OpRes P o a w (.pointer (some ⟨w.heap.size,0,none⟩)) (w.alloc (.cells (a.eval x).cells t)):=.inl (by simp [execOp,ho,Instr.box,newVar,newRow])
 simp only [qQb] at hs
 split at hs
 ·split at hs
  ·rename_i cs ec
   split at hs
   ·cases hs
    obtain⟨h1,h2,h3⟩:=qV9 ec hx
    exact Sound.newBox h hd (hn _ _ rfl rfl) h1 h2 (fun m hm=>nx m (h3 m hm)) hrun
   ·cases hs
  ·cases hs
 ·split at hs
  ·rename_i p ep
   split at hs
   ·rename_i cs ec
    cases hs
    rw [ep] at hx
    obtain⟨h1,h2⟩:=qIo ec hx
    refine Sound.newRow h hd (fun H' hH hnew => ?_) (by simp [V.names]) hrun
    simp only [RepV,RepP]
    refine⟨_,0,rfl,?_⟩
    rw [hnew]
    exact RepL.mono hH cs _ _ List.prefix_rfl h2.sn
   ·cases hs
  ·cases hs
theorem qBu (off:Nat):∀ (ys:List Value) (k:Nat) (cells:Array Value),off+k+ys.length≤cells.size →
  ((ys.zipIdx k).foldl (fun cs (p:Value × Nat)=>cs.setIfInBounds (off+p.2) p.1) cells).toList=cells.toList.take (off+k)++ys++cells.toList.drop (off+k+ys.length)
 | [],k,cells,_=>by simp
 | y::ys,k,cells,h=>by
  simp only [List.zipIdx_cons,List.foldl_cons]
  rw [qBu off ys (k+1) _ (by simp at h ⊢;omega)]
  simp only [List.length_cons] at h ⊢
  have e:=list_seg_step cells.toList (off+k) y ys (by simp;omega)
  simpa [Array.toList_setIfInBounds,Nat.add_assoc,Nat.add_comm 1] using e
theorem qG9 {cs ys:List V} {off:Nat} {vs us:List Value} (hl:vs.length=cs.length) (hu:us.length=ys.length) (ho:off+ys.length≤cs.length) (hr:RepVL E cs vs) (hy:RepVL E ys us) :
  RepVL E (qDn cs off ys) (vs.take off++us++vs.drop (off+us.length)):=by
 refine RepVL.append ?_ (RepVL.append ?_ (hr.take off) hy) ?_
 ·simp;omega
 ·simp;omega
 ·rw [hu];exact hr.drop _
theorem qXz (cs ys:List V) (off:Nat) (ho:off+ys.length≤cs.length):(qDn cs off ys).length=cs.length:=by
 grind [qDn]
theorem qKv (cs ys:List V) (off:Nat):∀ m∈qQg (qDn cs off ys),m∈qQg cs∨m∈qQg ys:=by
 intro m hm
 obtain⟨c,hc,hm⟩:=mem_namesL.1 hm
 simp only [qDn,List.mem_append] at hc
 rcases hc with (hc|hc)|hc
 ·exact .inl (mem_namesL.2 ⟨c,List.mem_of_mem_take hc,hm⟩)
 ·exact .inr (mem_namesL.2 ⟨c,hc,hm⟩)
 ·exact .inl (mem_namesL.2 ⟨c,List.mem_of_mem_drop hc,hm⟩)
theorem qBv {fs:List (Nat × Nat)} {place:Nat→Option (Nat × Nat)} (hp:∀ i p,fs[i]? = some p→place i=some p) :
  ∀ (parts:List (Nat × Operand)) (cs cs':List V) (cells:Array Value),cells.size=cs.length→RepVL E cs cells.toList→(∀ m∈qQg cs,m∈σ.used) →
   Ga C E σ a w→GOK gl C.E0.H→qXn fs cs (parts.map fun p=>(p.1,σ.val gl p.2))=some cs' →
   ∃ cells',Instr.fill place cells (parts.map fun p=>(p.1,a.eval p.2))=some cells'∧cells'.size=cs'.length∧RepVL E cs' cells'.toList ∧ ∀ m∈qQg cs',m∈σ.used
 | [],cs,cs',cells,hl,hr,hn,_,_,hf=>by
  simp only [List.map_nil,qXn,Option.some.injEq] at hf
  subst hf
  exact⟨cells,rfl,hl,hr,hn⟩
 | (i,x)::parts,cs,cs',cells,hl,hr,hn,h,hg,hf=>by
  simp only [List.map_cons,qXn] at hf
  split at hf
  ·rename_i off size ys e1 e2
   split at hf
   ·obtain⟨h1,h2,h3⟩:=qV9 e2 (qQd h hg x)
    have hsz:off+(a.eval x).cells.size≤cells.size:=by omega
    have e:=qBu off (a.eval x).cells.toList 0 cells (by omega)
    have ih:=qBv hp parts (qDn cs off ys) cs' ((a.eval x).cells.zipIdx.foldl (fun cs (p:Value × Nat)=>cs.setIfInBounds (off+p.2) p.1) cells)
     (by
      rw [← Array.length_toList,← Array.foldl_toList,Array.toList_zipIdx,e,qXz cs ys off (by omega)]
      simp;omega)
     (by
      rw [← Array.foldl_toList,Array.toList_zipIdx,e]
      grind [qG9])
     (by
      grind [qKv,qQi]) h hg hf
    obtain⟨cells',hf',hrest⟩:=ih
    refine⟨cells',?_,hrest⟩
    have hcond:¬ ((a.eval x).cells.size≠size∨off+(a.eval x).cells.size > cells.size):=by omega
    simp only [List.map_cons,Instr.fill,hp i _ e1]
    rw [if_neg (by simp_all)]
    exact hf'
   ·cases hf
  ·cases hf
theorem qDs {P:Program} : ∀ {ff:List Field} {fs:List (Nat × Nat)},ff.map (fun x=>(x.offset,(P.info? x.type).map (·.size)))=fs.map (fun p=>(p.1,some p.2)) →
  ff.mapM (fun f=>(P.info? f.type).map fun i=>(f.offset,i.size))=some fs
 | [],fs,h=>by
  simp_all
 | f::ff,fs,h=>by
  cases fs with
  | nil=>simp at h
  | cons p fs =>
   simp only [List.map_cons,List.cons.injEq,Prod.mk.injEq] at h
   obtain⟨⟨h1,h2⟩,h3⟩:=h
   have ih:=qDs (P:=P) h3
   cases hi:P.info? f.type with
   | none=>rw [hi] at h2;cases h2
   | some i =>
    simp_all
theorem qFv (h:Ga C E σ a w) (hg:GOK gl C.E0.H) (hd:∀ d,o.dst=some d→d<C.nt) (hT:TOK P T) {t:Nat} {parts:Array (Nat × Operand)} (ho:o.op = .build t parts) {r:R} {ob:Nat→Option Ob}
  (hs:qQb T note (σ.val gl) ob o.dst (.build t parts)=some r):Sound P C E σ a w o r:=by
 simp only [qQb] at hs
 split at hs
 ·rename_i fs pl s1 s2 s3 zc et
  have hti:=hT t _ et
  obtain⟨d,hde,hk⟩:=hti.desc
  simp only [qK9] at hk
  obtain⟨ff,rfl,hmap,_⟩:=hk
  cases hf:qXn fs (pvL zc) (parts.toList.map fun p=>(p.1,σ.val gl p.2)) with
  | none=>rw [hf] at hs;cases hs
  | some cs =>
   rw [hf] at hs
   simp only [Option.map_some,Option.some.injEq] at hs
   subst hs
   obtain⟨cells',hfill,hl,hr,hn⟩:=qBv (gl:=gl) (fs:=fs) (place:=fun i=>fs.toArray[i]?) (by simp) parts.toList (pvL zc) cs s3.cells
    (by rw [hti.zlen];simp [pvL];exact hti.zc.symm) (RepVL.ofPv (RepL.mono (Hle.zero _) _ _ _ List.prefix_rfl hti.zcells)) (by simp [qJ0]) h hg hf
   refine Sound.pure h (v:=.agg cells') (.inl ?_) ?_ (fun m hm=>hn m (qJ8 _ m hm)) hd trivial
   ·obtain⟨it,hit,_,_,hz⟩:=hti.info
    have hb:P.built t (parts.toList.map fun p=>(p.1,a.eval p.2))=some cells':=by
     simp only [Program.built,hit,hde,hz,qDs hmap]
     exact hfill
    have hr:=run_build (P:=P) w t (parts.map fun p=>(p.1,a.eval p.2)) cells' (by simp_all)
    simp only [execOp,ho,Sem.run_bind]
    rw [hr]
    rfl
   ·have:=qW6 (vs:=cells'.toList) (by omega) hr
    omega
 ·rename_i m e s1 s2 s3 zc et
  have hti:=hT t _ et
  obtain⟨d,hde,hk⟩:=hti.desc
  subst hk
  split at hs
  ·rename_i te ee
   have hte:=hT e te ee
   cases hf:qXn (qVr te.size m 0) (pvL zc) (parts.toList.map fun p=>(p.1,σ.val gl p.2)) with
   | none=>rw [hf] at hs;cases hs
   | some cs =>
    rw [hf] at hs
    simp only [Option.map_some,Option.some.injEq] at hs
    subst hs
    obtain⟨cells',hfill,hl,hr,hn⟩:=qBv (gl:=gl) (fs:=qVr te.size m 0) (place:=fun i=>some (i * te.size,te.size)) (by
      intro i p hp
      have:=qFi te.size m 0 i p hp
      rw [this]
      simp) parts.toList (pvL zc) cs s3.cells
     (by rw [hti.zlen];simp [pvL];exact hti.zc.symm) (RepVL.ofPv (RepL.mono (Hle.zero _) _ _ _ List.prefix_rfl hti.zcells)) (by simp [qJ0]) h hg hf
    refine Sound.pure h (v:=.agg cells') (.inl ?_) ?_ (fun m hm=>hn m (qJ8 _ m hm)) hd trivial
    ·obtain⟨it,hit,_,_,hz⟩:=hti.info
     obtain⟨ie,hie,hsz,_⟩:=hte.info
     have hb:P.built t (parts.toList.map fun p=>(p.1,a.eval p.2))=some cells':=by
      simp only [Program.built,hit,hde,hz,hie,hsz]
      exact hfill
     have hr:=run_build (P:=P) w t (parts.map fun p=>(p.1,a.eval p.2)) cells' (by simp_all)
     simp only [execOp,ho,Sem.run_bind]
     rw [hr]
     rfl
    ·have:=qW6 (vs:=cells'.toList) (by omega) hr
     omega
  ·cases hs
 ·cases hs
end
theorem zQf {E:Env} {x:V} {v:Value} (h:x.one=true) (hx:RepV E x v):v.oneCell'=true:=by
 cases x with
 | undef=>grind [V.one]
 | pv p =>
  cases p with
  | agg cs=>grind [V.one]
  | tuple cs=>grind [V.one]
  | slice es=>obtain⟨_,_,rfl,_⟩:=hx;rfl
  | ptr es=>obtain⟨_,_,rfl,_⟩:=hx;rfl
  | iface t p=>obtain⟨_,rfl,_⟩:=hx;rfl
  | nptr es=>obtain⟨_,_,rfl,_⟩:=hx;rfl
  | num k n=>rw [hx.1];rfl
  | str l=>rw [hx.1];rfl
  | flg b=>obtain⟨_,rfl,_⟩:=hx;rfl
  | _=>subst hx;rfl
 | agg cs=>grind [V.one]
 | tuple cs=>grind [V.one]
 | fn f cs=>obtain⟨_,rfl,_⟩:=hx;rfl
 | bfn f cs=>obtain⟨_,rfl,_⟩:=hx;rfl
 | loc n off=>obtain⟨_,_,rfl⟩:=hx;rfl
 | eloc n ver i off=>obtain⟨_,⟨_,rfl⟩,_⟩:=hx;rfl
 | arr n ver len=>obtain⟨_,⟨_,_,_,rfl⟩,_⟩:=hx;rfl
 | vsl es=>obtain⟨_,_,rfl,_⟩:=hx;rfl
 | fsl es=>obtain⟨_,rfl,_⟩:=hx;rfl
 | gsl n ver es=>obtain⟨⟨_,_,rfl,_⟩,_⟩:=hx;rfl
 | map n=>obtain⟨_,_,rfl⟩:=hx;rfl
theorem qFw {E:Env} : ∀ {cs:List V} {vs:List Value},cs.all V.one=true→vs.length=cs.length→RepVL E cs vs→∀ v∈vs,v.oneCell'=true
 | [],[],_,_,_,v,hv=>by simp at hv
 | [],_::_,_,hl,_,_,_=>by simp at hl
 | c::cs,[],_,_,_,v,hv=>by simp at hv
 | c::cs,u::vs,h,hl,r,v,hv=>by
  simp only [List.all_cons,Bool.and_eq_true] at h
  simp only [RepVL] at r
  rcases List.mem_cons.1 hv with rfl|hv
  ·grind [zQf]
  ·exact qFw h.2 (by simpa using hl) r.2 v hv
section
variable {P:Program} {C:Ctx} {E:Env} {σ:St} {a:Act} {w:World} {gl:Nat→Option (List PV)} {o:Oper} {T:Nat→Option TI} {note:qXa}
theorem qBw (hh:HeapOK E w) {g:Nat} (hg:E.H g=[]) (c:Array Value):HeapOK E (w.setRow g c):=by
 intro b hb
 have:b≠g:=fun e=>hb (e ▸ hg)
 obtain⟨c',T,fr,hc,hp⟩:=hh b hb
 exact⟨c',T,fr,by rw [setRow_other w g b c this];exact hc,hp⟩
theorem qYh {α:Type} (l ys:List α) (off j:Nat) (h:off+ys.length≤l.length) :
  (l.take off++ys++l.drop (off+ys.length))[j]? = if j<off then l[j]? else if j<off+ys.length then ys[j-off]? else l[j]?:=by
 grind
theorem Ga.setMark (h:Ga C E σ a w) {g off ty:Nat} {p c:Bool} {cur:Array Value} (hm:(E.H g)[off]? = some (mark p)) (hcur:w.heap[g]? = some (.cells cur ty (0,0))) (hc:c=true→p=true)
  {dst:Option Nat} {x:V} {v:Value} (hx:RepV E x v) (hxn:∀ m∈x.names,m∈σ.used) (hd:∀ d,dst=some d→d<C.nt) :
  Ga C E ⟨qAd dst x σ.slots,σ.objs,σ.used⟩ (a.put dst v) (w.setRow g (cur.toList.take off++[Value.bool c]++cur.toList.drop (off+1)).toArray):=by
 have hne:E.H g≠[]:=by grind
 refine h.pureF E.H dst x v (Hle.refl _) (by simp) ⟨rfl,rfl,rfl⟩ (fun b hlt=>⟨fun hnf => ?_,rfl⟩) ?_ hx hxn hd
 ·by_cases e:b=g
  ·subst e
   exact absurd rfl (hnf _ (List.mem_of_getElem? hm) p)
  ·exact setRow_other w g b _ e
 ·intro b hb
  by_cases e:b=g
  ·subst e
   obtain⟨c',T',fr,hc',hp,hfr⟩:=h.heap b hne
   rw [hcur] at hc'
   cases hc'
   refine⟨_,ty,(0,0),setRow_heap w b cur _ ty _ hcur,?_,.inl rfl⟩
   obtain⟨c0,hc0,_⟩:=hp.2.2 off p hm
   have hlt:off<cur.toList.length:=(List.getElem?_eq_some_iff.1 hc0).1
   have hget:∀ i,(cur.toList.take off++[Value.bool c]++cur.toList.drop (off+1))[i]? = if i=off then some (.bool c) else cur.toList[i]?:=by
    intro i
    rw [show off+1=off+[Value.bool c].length from rfl,qYh _ _ _ _ (by simp at hlt ⊢;omega)]
    by_cases h1:i<off
    ·rw [if_pos h1,if_neg (by omega)]
    ·rw [if_neg h1]
     by_cases h2:i=off
     ·subst h2;simp
     ·rw [if_neg (by simp;omega),if_neg h2]
   refine⟨?_,fun i u hi hu hb' => ?_,fun i q hi => ?_⟩
   ·have:=hp.1
    simp at this hlt ⊢
    omega
   ·rw [hget]
    have:i≠off:=by
     intro e
     subst e
     rw [hm] at hi
     cases hi
     exact hb' p rfl
    rw [if_neg this]
    exact hp.2.1 i u hi hu hb'
   ·rw [hget]
    by_cases e:i=off
    ·subst e
     rw [hm] at hi
     have:=qG4 (Option.some.inj hi)
     subst this
     exact⟨c,by simp,hc⟩
    ·rw [if_neg e]
     exact hp.2.2 i q hi
  ·obtain⟨c',T,fr,hc',hp⟩:=h.heap b hb
   exact⟨c',T,fr,by rw [setRow_other w g b _ e];exact hc',hp⟩
theorem Ga.setRow (h:Ga C E σ a w) {n g ty:Nat} {ob ob':Ob} {cur c:Array Value} (ho:qQc σ.objs n=some ob) (hgr:ob.gr=false) (hb:blk (E.g n)=some g) (hcur:w.heap[g]? = some (.cells cur ty (0,0)))
  (hok:ObOK E (w.setRow g c) n ob') (hnm:∀ m∈ob'.names,m∈σ.used) {dst:Option Nat} {x:V} {v:Value} (hx:RepV E x v) (hxn:∀ m∈x.names,m∈σ.used) (hd:∀ d,dst=some d→d<C.nt) :
  Ga C E ⟨qAd dst x σ.slots,qKp σ.objs n ob',σ.used⟩ (a.put dst v) (w.setRow g c):=by
 have hfree:=(h.objs n ob ho).free hgr hb
 refine h.change (E':=E) n (some ob') (qKp σ.objs n ob') σ.used dst x v (fun m=>qQm _ _ _ _) (Hle.refl _) (fun _ _=>⟨rfl,rfl,rfl⟩) (fun _=>EExt.refl _ _) (fun _=>⟨ob,ho⟩) (by simp) ⟨rfl,rfl,rfl⟩
  (fun b hlt hne=>⟨setRow_other w g b c (fun e=>hne ob ho (e ▸ hb)),rfl⟩) (qBw h.heap hfree c) ?_ ?_ (fun _ h=>h) hx hxn hd
 ·intro o' e
  cases e
  exact⟨hok,(h.usedO n ob ho).1,hnm⟩
 simp_all
theorem RepVL.iff:∀ {cs:List V} {vs:List Value},RepVL E cs vs ↔ ∀ (j:Nat) (c:V),cs[j]? = some c→∃ v,vs[j]? = some v∧RepV E c v
 | [],vs=>by simp [RepVL]
 | c::cs,[]=>by
  simp only [RepVL,false_iff]
  intro h
  obtain⟨v,hv,_⟩:=h 0 c rfl
  simp at hv
 | c::cs,v::vs=>by
  simp only [RepVL,RepVL.iff (cs:=cs) (vs:=vs)]
  constructor
  ·grind
  ·intro h
   refine⟨?_,fun j c' hj=>by simpa using h (j+1) c' (by simp_all)⟩
   obtain⟨v',hv',hr⟩:=h 0 c rfl
   simp_all
theorem RepVE.iff {s:Nat} : ∀ {es:List (List V)} {vs:List Value},(∀ e∈es,e.length=s)→(RepVE E es vs ↔ ∀ (i:Nat) (e:List V),es[i]? = some e→RepVL E e (vs.drop (i * s)))
 | [],vs,_=>by simp [RepVE]
 | e::es,vs,hs=>by
  have he:e.length=s:=hs e (by simp)
  simp only [RepVE,he,RepVE.iff (es:=es) (vs:=vs.drop s) (fun x hx=>hs x (by simp [hx])),List.drop_drop]
  constructor
  ·rintro⟨h1,h2⟩ i e' hi
   cases i with
   | zero=>simp_all
   | succ i=>grind
  ·intro h
   refine⟨by simpa using h 0 e rfl,fun i e' hi=>by simpa [Nat.succ_mul,Nat.add_comm] using h (i+1) e' (by simp_all)⟩
theorem RepVE.put {s:Nat} {es:List (List V)} {vs ys':List Value} {i off:Nat} {ys:List V} (hr:RepVE E es vs) (hs:∀ e∈es,e.length=s) (hi:i<es.length) (ho:off+ys.length≤s) (hl:ys'.length=ys.length)
  (hy:RepVL E ys ys') (hle:(i+1) * s≤vs.length):RepVE E (es.set i (qDn (es.getD i []) off ys)) (vs.take (i * s+off)++ys'++vs.drop (i * s+off+ys'.length)):=by
 have hge:es[i]? = some (es.getD i []):=by rw [List.getD_eq_getElem?_getD,List.getElem?_eq_getElem hi];simp
 have hel:(es.getD i []).length=s:=hs _ (List.mem_of_getElem? hge)
 have hpl:(qDn (es.getD i []) off ys).length=s:=by rw [qXz _ _ _ (by omega),hel]
 have hsucc:(i+1) * s=i * s+s:=Nat.succ_mul i s
 rw [RepVE.iff hs] at hr
 rw [RepVE.iff (s:=s)]
 ·intro k e hk
  rw [RepVL.iff]
  intro j c hj
  rw [List.getElem?_drop,qYh vs ys' (i * s+off) _ (by omega)]
  rw [List.getElem?_set] at hk
  by_cases hik:i=k
  ·subst hik
   simp only [if_true,hi] at hk
   cases hk
   have hjs:j<s:=by rw [← hpl];exact (List.getElem?_eq_some_iff.1 hj).1
   unfold qDn at hj
   rw [qYh _ _ _ _ (by omega)] at hj
   have hold:∀ c,(es.getD i [])[j]? = some c→∃ v,vs[i * s+j]? = some v∧RepV E c v:=by
    intro c hc
    have:=RepVL.iff.1 (hr i _ hge) j c hc
    simpa using this
   by_cases h1:j<off
   ·rw [if_pos h1] at hj
    rw [if_pos (by omega)]
    exact hold c hj
   ·rw [if_neg h1] at hj
    rw [if_neg (by omega)]
    by_cases h2:j<off+ys.length
    ·rw [if_pos h2] at hj
     rw [if_pos (by omega)]
     have:=RepVL.iff.1 hy (j-off) c hj
     rwa [show i * s+j-(i * s+off)=j-off by omega]
    ·rw [if_neg h2] at hj
     rw [if_neg (by omega)]
     exact hold c hj
  ·simp only [hik,if_false] at hk
   have hjs:j<s:=by rw [← hs e (List.mem_of_getElem? hk)];exact (List.getElem?_eq_some_iff.1 hj).1
   have hold:=RepVL.iff.1 (hr k e hk) j c hj
   rw [List.getElem?_drop] at hold
   rcases Nat.lt_or_gt_of_ne hik with hlt|hgt
   ·have hm:(i+1) * s≤k * s:=Nat.mul_le_mul_right _ hlt
    rw [if_neg (by omega),if_neg (by omega)]
    exact hold
   ·have hm:(k+1) * s≤i * s:=Nat.mul_le_mul_right _ hgt
    have hk1:(k+1) * s=k * s+s:=Nat.succ_mul k s
    rw [if_pos (by omega)]
    exact hold
 ·intro e he
  rcases List.mem_or_eq_of_mem_set he with he|he
  ·exact hs e he
  ·rw [he];exact hpl
theorem qFx (h:Ga C E σ a w) (hg:GOK gl C.E0.H) (hT:TOK P T) {t:Nat} {x y:Operand} (ho:o.op = .store t x y) {r:R} (hc:r.cond)
  (hs:qQb T note (σ.val gl) (qQc σ.objs) o.dst (.store t x y)=some r):Sound P C E σ a w o r:=by
 have hx:=qQd h hg x
 have hy:=qQd h hg y
 have ny:=qQi (gl:=gl) h y
 simp only [qQb] at hs
 split at hs
 ·rename_i ti hdn et
  have hd:∀ d,o.dst=some d→d<C.nt:=by simp_all
  have hti:=hT t ti et
  unfold qZ9 at hs
  split at hs
  ·cases hs
  ·rename_i ys ey
   obtain⟨hy1,hy2,hy3⟩:=qV9 ey hy
   have hrun:∀ (g off ty:Nat) (cur:Array Value),a.eval x = .pointer (some ⟨g,off,none⟩)→w.heap[g]? = some (.cells cur ty (0,0))→off+ys.length≤cur.size→ys.length=ti.size→ys.all V.one=true →
     OpRes P o a w undef (w.setRow g (cur.toList.take off++(a.eval y).cells.toList++cur.toList.drop (off+ys.length)).toArray):=by
    intro g off ty cur hv hcur hle hsz hone
    refine .inr ⟨?_,rfl⟩
    have hst:=run_storeCells_at P g off ty (a.eval y).cells.toList 0 cur w hcur (by simp_all) (qFw hone (by omega) hy2)
    simp only [Nat.add_zero,Array.length_toList,hy1] at hst
    simp [execOp,ho,Instr.storeAt,Instr.sureAddr,hv,storeVar,hti.run_size,hy1,hsz,hst]
   split at hs
   ·rename_i n off ex
    rw [ex] at hx
    split at hs
    ·rename_i cs eo
     cases hs
     obtain⟨hc1,hc2,hc3⟩:=hc
     obtain⟨b,c,T',hgn,hcell,hsz,hr,hfree⟩:=id (h.objs n _ eo)
     simp only [RepV] at hx
     obtain⟨b',hgn',hv⟩:=hx
     rw [hgn] at hgn'
     cases hgn'
     refine⟨undef,_,E,hrun b off T' c hv hcell (by omega) hc1 hc3,?_,trivial⟩
     refine h.setRow (ob':=.box (qDn cs off ys)) eo rfl (by rw [hgn];rfl) hcell ⟨b,_,T',hgn,setRow_heap w b c _ T' _ hcell,?_,?_,hfree⟩ ?_ (by simp [RepV]) (by simp [V.names]) hd
     ·rw [qXz cs ys off hc2]
      simp [hy1];omega
     ·have:=qG9 (E:=E) (vs:=c.toList) (us:=(a.eval y).cells.toList) (by simpa using hsz) (by simpa using hy1) hc2 hr hy2
      simpa [hy1] using this
     ·intro m hm
      rcases qKv cs ys off m hm with hm|hm
      ·exact (h.usedO n _ eo).2 m hm
      ·exact ny m (hy3 m hm)
    ·cases hs
   ·rename_i p cs ex
    rw [ex] at hx
    simp only [RepV,RepP] at hx
    obtain⟨b,off,hv,hr⟩:=hx
    split at hs
    ·rename_i c ec
     cases hs
     obtain⟨hc1,hc2⟩:=hc
     rw [ec] at hy ey
     have hyv:=qZe hy
     cases hdr:(E.H b).drop off with
     | nil=>rw [hdr] at hr;simp [RepK] at hr
     | cons m ms =>
      rw [hdr] at hr
      simp only [RepK] at hr
      have hm:(E.H b)[off]? = some (mark p):=by
       have:=congrArg (fun l=>l[0]?) hdr
       simpa [hr.1] using this
      have hne:E.H b≠[]:=by intro e;rw [e] at hm;cases hm
      obtain⟨cc,T',fr,hcell,hpre,hfr⟩:=h.heap b hne
      have hfr0:fr=(0,0):=by
       rcases hfr with e|e
       ·exact e
       ·obtain⟨k,n,e1,e2⟩:=e _ (List.mem_of_getElem? hm)
        simp only [mark,Value.int.injEq] at e1
        exact absurd e1.1.symm e2
      subst hfr0
      obtain⟨c0,hc0,_⟩:=hpre.2.2 off p hm
      have hlt:off<cc.size:=by
       have:=(List.getElem?_eq_some_iff.1 hc0).1
       simpa using this
      have hys:ys.length=1:=by
       simp [qJz] at ey
       subst ey
       rfl
      refine⟨undef,_,E,hrun b off T' cc hv hcell (by omega) (by omega) (by simp [qJz] at ey;subst ey;rfl),?_,trivial⟩
      have:=h.setMark (c:=c) (dst:=o.dst) (x:=.undef) (v:=undef) hm hcell hc2 (by simp [RepV]) (by simp [V.names]) hd
      have hcells:(a.eval y).cells.toList=[.bool c]:=by rw [hyv];rfl
      rw [hcells,hys]
      exact this
    ·cases hs
   ·rename_i n ver i off ex
    rw [ex] at hx
    split at hs
    ·rename_i ver' sz ty es eo
     cases hs
     obtain⟨rfl,hi,hc1,hc2,hc3⟩:=hc
     have hob:=h.objs n _ eo
     obtain⟨hver,hsz,hlen,xs,hown,hrx,hfree⟩:=id hob
     simp only [RepV] at hx
     obtain⟨_,_,hx⟩:=hx
     obtain⟨b,L,cap,hgn,hv,hlt⟩:=hx hver.symm
     rcases hown.2 with ⟨e0,_⟩|⟨g,cap',cur,hgn',hb0,hcell,hle,hm,hcs,htake⟩
     ·rw [hgn] at e0;cases e0
     rw [hgn] at hgn'
     cases hgn'
     rw [hsz] at hv
     have hxl:xs.length=es.length * sz:=hown.1
     have hmul:(i+1) * sz≤es.length * sz:=Nat.mul_le_mul_right _ hi
     have hmul2:es.length * sz≤cap * sz:=Nat.mul_le_mul_right _ hle
     have hsucc:(i+1) * sz=i * sz+sz:=Nat.succ_mul i sz
     have hfit:i * sz+off+ys.length≤cur.size:=by rw [hcs];omega
     refine⟨undef,_,E,hrun b (i * sz+off) ty cur hv hcell hfit hc1 hc3,?_,trivial⟩
     have hput:=RepVE.put (ys:=ys) (ys':=(a.eval y).cells.toList) hrx hlen hi hc2 (by simpa using hy1) hy2 (by rw [hxl];exact hmul)
     have hge:es[i]? = some (es.getD i []):=by rw [List.getD_eq_getElem?_getD,List.getElem?_eq_getElem hi];simp
     have hel:(es.getD i []).length=sz:=hlen _ (List.mem_of_getElem? hge)
     have hpl:(qDn (es.getD i []) off ys).length=sz:=by rw [qXz _ _ _ (by omega),hel]
     refine h.setRow (ob':=.arr ver sz ty (es.set i (qDn (es.getD i []) off ys))) eo rfl (by rw [hgn];rfl) hcell ⟨hver,hsz,?_,_,⟨?_,.inr ⟨b,cap,_,?_,hb0,setRow_heap w b cur _ ty _ hcell,?_,hm,?_,rfl⟩⟩,?_,hfree⟩ ?_ (by simp [RepV]) (by simp [V.names]) hd
     ·intro e he
      rcases List.mem_or_eq_of_mem_set he with he|he
      ·exact hlen e he
      ·rw [he];exact hpl
     ·simp only [List.length_set,List.length_take,List.length_append,List.length_drop,Array.length_toList,hy1]
      omega
     ·simp [hgn]
     ·simpa using hle
     ·simp [hy1];omega
     ·have hcx:cur.toList.take (es.length * sz)=xs:=htake
      simp only [List.length_set]
      have:(cur.toList.take (i * sz+off)++(a.eval y).cells.toList++cur.toList.drop (i * sz+off+ys.length)).take (es.length * sz) =
        xs.take (i * sz+off)++(a.eval y).cells.toList++xs.drop (i * sz+off+(a.eval y).cells.toList.length):=by
       have hyl:(a.eval y).cells.toList.length=ys.length:=by simpa using hy1
       apply List.ext_getElem?
       intro j
       rw [List.getElem?_take,← hyl,qYh _ _ _ _ (by simp;omega),qYh _ _ _ _ (by omega)]
       rw [← hcx]
       simp only [List.getElem?_take]
       by_cases hj:j<es.length * sz
       ·simp [hj]
       ·rw [if_neg hj,if_neg (by omega),if_neg (by omega),if_neg hj]
      rw [this]
      exact hput
     ·intro m hm
      obtain⟨e,he,hm⟩:=mem_namesE.1 hm
      rcases List.mem_or_eq_of_mem_set he with he|he
      ·exact (h.usedO n _ eo).2 m (mem_namesE.2 ⟨e,he,hm⟩)
      ·subst he
       rcases qKv _ _ _ m hm with hm|hm
       ·exact (h.usedO n _ eo).2 m (mem_namesE.2 ⟨_,List.mem_of_getElem? hge,hm⟩)
       ·exact ny m (hy3 m hm)
    ·cases hs
   ·cases hs
 ·cases hs
end
section
variable {P:Program} {C:Ctx} {E:Env} {σ:St} {a:Act} {w:World} {gl:Nat→Option (List PV)} {o:Oper} {T:Nat→Option TI} {note:qXa}
theorem RepVE.cons {cs:List V} {es:List (List V)} {vs us:List Value} (hl:vs.length=cs.length) (h1:RepVL E cs vs) (h2:RepVE E es us):RepVE E (cs::es) (vs++us):=by
 refine⟨RepVL.mono (Hle.refl _) cs vs _ (List.prefix_append _ _) (fun n _=>EExt.refl E n) h1,?_⟩
 rw [← hl,List.drop_left]
 exact h2
theorem qAx {size:Nat} (h:Ga C E σ a w) (hg:GOK gl C.E0.H):∀ (parts:List (Nat × Operand)) (k:Nat) (es:List (List V)) (cells:Array Value),
  qZu k (parts.map fun p=>(p.1,σ.val gl p.2))=some es→(∀ e∈es,e.length=size)→(k+es.length) * size≤cells.size →
  ∃ cells' us,Instr.fill (fun i=>some (i * size,size)) cells (parts.map fun p=>(p.1,a.eval p.2))=some cells'∧us.length=es.length * size∧RepVE E es us ∧
   cells'.toList=cells.toList.take (k * size)++us++cells.toList.drop ((k+es.length) * size) ∧ ∀ n∈qQw es,n∈σ.used
 | [],k,es,cells,hs,_,hle=>by
  simp only [List.map_nil,qZu,Option.some.injEq] at hs
  subst hs
  exact⟨cells,[],rfl,by simp,by simp [RepVE],by simp,by simp [qQw]⟩
 | (i,x)::parts,k,es,cells,hs,hlen,hle=>by
  simp only [List.map_cons,qZu] at hs
  split at hs
  ·rename_i hik
   subst hik
   split at hs
   ·rename_i cs es' e1 e2
    cases hs
    have hx:=qQd h hg x
    obtain⟨h1,h2,h3⟩:=qV9 e1 hx
    have hcs:cs.length=size:=hlen cs (by simp)
    have hexp:(i+(cs::es').length) * size=i * size+size+es'.length * size:=by
     simp only [List.length_cons,Nat.add_mul,Nat.one_mul];omega
    have hexp2:(i+1+es'.length) * size=i * size+size+es'.length * size:=by
     simp only [Nat.add_mul,Nat.one_mul]
    have hexp3:(i+1) * size=i * size+size:=Nat.succ_mul i size
    rw [hexp] at hle
    have hsz:i * size+(a.eval x).cells.size≤cells.size:=by rw [h1,hcs];omega
    have e:=qBu (i * size) (a.eval x).cells.toList 0 cells (by simpa using hsz)
    simp only [Nat.add_zero] at e
    have hfl:((a.eval x).cells.zipIdx.foldl (fun cs (p:Value × Nat)=>cs.setIfInBounds (i * size+p.2) p.1) cells).toList =
      cells.toList.take (i * size)++(a.eval x).cells.toList++cells.toList.drop (i * size+(a.eval x).cells.toList.length):=by
     rw [← Array.foldl_toList,Array.toList_zipIdx,e]
    have hsize:((a.eval x).cells.zipIdx.foldl (fun cs (p:Value × Nat)=>cs.setIfInBounds (i * size+p.2) p.1) cells).size=cells.size:=by
     rw [← Array.length_toList,hfl]
     simp;omega
    obtain⟨cells',us,hf,hu,hr,hc,hnm⟩:=qAx (size:=size) h hg parts (i+1) es' _ e2 (fun e he=>hlen e (by simp [he])) (by rw [hsize,hexp2];exact hle)
    refine⟨cells',(a.eval x).cells.toList++us,?_,?_,RepVE.cons (by simpa using h1) h2 hr,?_,?_⟩
    ·have hcond:¬ ((a.eval x).cells.size≠size∨i * size+(a.eval x).cells.size > cells.size):=by rw [h1,hcs];omega
     simp only [List.map_cons,Instr.fill]
     rw [if_neg (by simpa using hcond)]
     exact hf
    ·simp only [List.length_append,Array.length_toList,h1,hcs,hu,List.length_cons,Nat.add_mul,Nat.one_mul];omega
    ·rw [hc,hfl]
     have hl1:(cells.toList.take (i * size)++(a.eval x).cells.toList).length=(i+1) * size:=by simp [h1,hcs];omega
     have ht:(cells.toList.take (i * size)++(a.eval x).cells.toList++cells.toList.drop (i * size+(a.eval x).cells.toList.length)).take ((i+1) * size)=cells.toList.take (i * size)++(a.eval x).cells.toList:=by
      rw [← hl1];exact List.take_left
     have hd:(cells.toList.take (i * size)++(a.eval x).cells.toList++cells.toList.drop (i * size+(a.eval x).cells.toList.length)).drop ((i+1+es'.length) * size)=cells.toList.drop ((i+(cs::es').length) * size):=by
      rw [hexp,hexp2,← hexp3,← hl1,List.drop_append,List.drop_of_length_le (by omega),List.nil_append,List.drop_drop]
      congr 1
      simp only [Array.length_toList,h1,hcs]
      omega
     rw [ht,hd]
     simp
    ·intro n hn
     simp only [qQw,List.mem_append] at hn
     rcases hn with hn|hn
     ·exact qQi h x n (h3 n hn)
     ·exact hnm n hn
   ·cases hs
  ·cases hs
theorem qAi {t e len:Nat} {te:TI} (hte:TIOK P e te) (hde:P.underlying t=some (.slice e)) {parts:Array (Nat × Value)} {cells:Array Value} (hsz:len * te.size≤16777216)
  (hf:Instr.fill (fun i=>some (i * te.size,te.size)) ((Array.range (len * te.size)).map (fun j=>(if len * te.size=0 then #[] else te.zero.cells)[j % (if len * te.size=0 then #[] else te.zero.cells).size]!)) parts.toList=some cells) :
  (Instr.buildSlice t len parts).run P w = .ok (.slice (some ⟨w.heap.size,0,none⟩) len len) (w.alloc (.cells cells e)):=by
 have hn:¬ (len * te.size > 2 ^ 24):=by omega
 unfold Instr.buildSlice
 simp only [Sem.run_bind,run_underlying hde,Result.andThen_ok,hte.run_size,if_neg hn]
 by_cases h0:len * te.size=0
 ·simp only [h0,if_true] at hf ⊢
  simp only [Sem.run_bind,Sem.run_pure,Result.andThen_ok,hf]
  rfl
 ·simp only [h0,if_false] at hf ⊢
  simp only [Sem.run_bind,Sem.run_pure,Result.andThen_ok,hte.run_zero,hf]
  rfl
theorem qXo (h:Ga C E σ a w) (hg:GOK gl C.E0.H) (hd:∀ d,o.dst=some d→d<C.nt) (hT:TOK P T) {t len:Nat} {parts:Array (Nat × Operand)} (ho:o.op = .buildSlice t len parts) {r:R} (hc:r.cond) {ob:Nat→Option Ob}
  (hs:qQb T note (σ.val gl) ob o.dst (.buildSlice t len parts)=some r) (hn:∀ n x,r.wr=some (n,x)→r.new=true→n ∉ σ.used):Sound P C E σ a w o r:=by
 simp only [qQb] at hs
 split at hs
 ·rename_i e s1 s2 s3 s4 et
  obtain⟨d,hde,hk⟩:=(hT t _ et).desc
  simp only [qK9] at hk
  subst hk
  split at hs
  ·rename_i te ee
   have hte:=hT e te ee
   split at hs
   ·rename_i es ep
    have key:(es.length=len∧len≤16777216∧len * te.size≤16777216 ∧ ∀ e∈es,e.length=te.size)→∃ cells,cells.size=es.length * te.size∧RepVE E es cells.toList∧(∀ n∈qQw es,n∈σ.used)∧OpRes P o a w (.slice (some ⟨w.heap.size,0,none⟩) es.length es.length) (w.alloc (.cells cells e)):=by
     rintro⟨hl,hlb,hsz,hlen⟩
     subst hl
     have hrest:∀ zero:Array Value,∃ cells us,Instr.fill (fun i=>some (i * te.size,te.size)) ((Array.range (es.length * te.size)).map (fun j=>zero[j % zero.size]!)) (parts.toList.map fun p=>(p.1,a.eval p.2))=some cells∧us.length=es.length * te.size∧RepVE E es us∧cells.toList=us ∧ ∀ n∈qQw es,n∈σ.used:=by
      intro zero
      obtain⟨cells',us,hf,hu,hr,hcl,hnm⟩:=qAx (size:=te.size) h hg parts.toList 0 es ((Array.range (es.length * te.size)).map (fun j=>zero[j % zero.size]!)) ep hlen (by simp)
      grind
     obtain⟨cells,us,hf,hu,hr,hcl,hnm⟩:=hrest (if es.length * te.size=0 then #[] else te.zero.cells)
     refine⟨cells,by rw [← Array.length_toList,hcl,hu],by rw [hcl];exact hr,hnm,.inl ?_⟩
     have hrun:=qAi (P:=P) (w:=w) hte hde (parts:=parts.map fun p=>(p.1,a.eval p.2)) hsz (by simp;omega)
     simp only [execOp,ho,Sem.run_bind]
     rw [hrun]
     rfl
    unfold qFj at hs
    split at hs
    ·rename_i n sz ty
     cases hs
     have hnn:=hn n _ rfl rfl
     clear hn
     obtain⟨hc0,rfl,rfl⟩:=hc
     obtain⟨cells,hcs,hr,hnm,hrun⟩:=key hc0
     obtain⟨hl,hlb,hsz,hlen⟩:=hc0
     subst hl
     have hlm:es.length≤maxLen:=Nat.le_trans hlb (by simp [maxLen])
     let E':Env:={ H:=E.H,g:=fun m=>if m=n then .slice (some ⟨w.heap.size,0,none⟩) es.length es.length else E.g m,ver:=fun m=>if m=n then 0 else E.ver m,sz:=fun m=>if m=n then te.size else E.sz m }
     have hg':E'.g n = .slice (some ⟨w.heap.size,0,none⟩) es.length es.length:=by simp [E']
     have hv':E'.ver n=0:=by simp [E']
     have hs':E'.sz n=te.size:=by simp [E']
     have hE:∀ m,m≠n→E'.g m=E.g m∧E'.ver m=E.ver m∧E'.sz m=E.sz m:=fun m hm=>⟨by grind,by grind,by grind⟩
     refine⟨_,_,E',hrun,?_,trivial⟩
     refine h.change (E':=E') n (some (.arr 0 te.size ty es)) (qKp σ.objs n (.arr 0 te.size ty es)) (n::σ.used) o.dst (.arr n 0 es.length) _ (fun m=>qQm _ _ _ _) (Hle.refl _) hE (fun hk=>absurd hk hnn) (fun hk=>absurd hk hnn)
      (by simp) ⟨rfl,rfl,rfl⟩ (fun b hb _=>⟨heap_alloc_old w _ b hb,rfl⟩) (qZz h.heap _ E' rfl) ?_ ?_ (fun m hm=>by simp [hm]) ?_ ?_ hd
     ·intro o' e
      cases e
      refine⟨⟨hv',hs',hlen,cells.toList,?_,?_,?_⟩,by simp,fun m hm=>by simp [hnm m (by simpa [Ob.names] using hm)]⟩
      ·rw [hg']
       refine⟨by simpa using hcs,.inr ⟨w.heap.size,es.length,cells,rfl,Nat.zero_le _,heap_alloc_new w _,Nat.le_refl _,hlm,hcs,?_⟩⟩
       rw [← hcs,← Array.length_toList,List.take_length]
      ·refine RepVE.mono (E:=E) (E':=E') (Hle.refl E.H) es _ _ List.prefix_rfl (fun m hm => ?_) hr
       have:m≠n:=fun e=>hnn (e ▸ hnm m hm)
       exact EExt.of_eq (hE m this).1 (hE m this).2.1 (hE m this).2.2
      ·rw [hg']
       intro b hb
       simp [Value.ownBlock] at hb
       subst hb
       exact h.heap.lt (Nat.le_refl _)
     ·intro o' b e hb
      rw [hg'] at hb
      simp [blk] at hb
      omega
     ·simp only [RepV,hv',hg']
      exact⟨Nat.le_refl _,⟨_,_,_,rfl⟩,fun _=>⟨_,_,_,rfl,rfl,Nat.le_refl _⟩⟩
     ·simp [V.names]
    ·cases hs
     obtain⟨cells,hcs,hr,hnm,hrun⟩:=key hc
     obtain⟨hl,hlb,hsz,hlen⟩:=hc
     subst hl
     have hlm:es.length≤maxLen:=Nat.le_trans hlb (by simp [maxLen])
     refine Sound.newRow h hd (fun H' hH hnew => ?_) (fun n hn=>hnm n (qBq es n hn)) hrun
     refine qFl (E:={ E with H:=H' }) (Nat.le_refl _) hlm ?_
     show RepVE _ es (H' w.heap.size)
     rw [hnew]
     exact RepVE.mono (E:=E) (E':={ E with H:=H' }) hH es _ _ List.prefix_rfl (fun n _=>EExt.of_eq rfl rfl rfl) hr.sn
   ·cases hs
  ·cases hs
 ·cases hs
end
section
variable {P:Program} {C:Ctx} {E:Env} {σ:St} {a:Act} {w:World} {gl:Nat→Option (List PV)} {o:Oper} {T:Nat→Option TI} {note:qXa}
theorem qDt (h:Ga C E σ a w) (hd:∀ d,o.dst=some d→d<C.nt) {n sz ty:Nat} {cd:Prop} (hn:n ∉ σ.used) (ho:o.op = .move (.const (.slice none 0 0))∨o.op = .assign (.const (.slice none 0 0))) :
  Sound P C E σ a w o ⟨cd,True,.arr n 0 0,some (n,.arr 0 sz ty []),true⟩:=by
 let E':Env:={ H:=E.H,g:=fun m=>if m=n then .slice none 0 0 else E.g m,ver:=fun m=>if m=n then 0 else E.ver m,sz:=fun m=>if m=n then sz else E.sz m }
 have hg':E'.g n = .slice none 0 0:=by simp [E']
 have hv':E'.ver n=0:=by simp [E']
 have hs':E'.sz n=sz:=by simp [E']
 have hE:∀ m,m≠n→E'.g m=E.g m∧E'.ver m=E.ver m∧E'.sz m=E.sz m:=fun m hm=>⟨by grind,by grind,by grind⟩
 refine⟨.slice none 0 0,w,E',.inl ?_,?_,trivial⟩
 ·rcases ho with ho|ho<;>simp [execOp,ho,Act.eval]
 refine h.change (E':=E') n (some (.arr 0 sz ty [])) (qKp σ.objs n (.arr 0 sz ty [])) (n::σ.used) o.dst (.arr n 0 0) _ (fun m=>qQm _ _ _ _) (Hle.refl _) hE (fun hk=>absurd hk hn) (fun hk=>absurd hk hn)
  (Nat.le_refl _) ⟨rfl,rfl,rfl⟩ (fun b hb _=>⟨rfl,rfl⟩) h.heap ?_ ?_ (fun m hm=>by simp [hm]) ?_ ?_ hd
 ·intro o' e
  cases e
  refine⟨⟨hv',hs',by simp,[],?_,by simp [RepVE],?_⟩,by simp,fun m hm=>by grind [Ob.names,qQw]⟩
  ·rw [hg'];exact World.ownsRow_nil _ _ _ _
  ·rw [hg'];intro b hb;simp [Value.ownBlock] at hb
 ·grind [blk]
 ·grind [RepV]
 ·simp [V.names]
theorem RepVE.of {E:Env} : ∀ {es:List (List PV)} {vs:List Value},RepE E.H es vs→RepVE E (pvE es) vs
 := by intro x;induction x<;>grind [pvE,RepVE,RepE,RepVL.ofPv,pvL]
theorem RepVE.append {E:Env} {s:Nat} : ∀ {es fs:List (List V)} {vs us:List Value},(∀ e∈es,e.length=s)→vs.length=es.length * s→RepVE E es vs→RepVE E fs us→RepVE E (es++fs) (vs++us)
 | [],fs,vs,us,_,hl,_,r=>by
  have:vs=[]:=List.eq_nil_of_length_eq_zero (by simpa using hl)
  subst this
  simpa using r
 | e::es,fs,vs,us,hs,hl,r,r'=>by
  simp only [RepVE] at r
  have he:e.length=s:=hs e (by simp)
  have hle:s≤vs.length:=by rw [hl];simp only [List.length_cons,Nat.succ_mul];omega
  simp only [List.cons_append,RepVE]
  refine⟨RepVL.mono (Hle.refl _) e vs _ (List.prefix_append _ _) (fun n _=>EExt.refl E n) r.1,?_⟩
  rw [he,List.drop_append_of_le_length hle]
  rw [he] at r
  refine RepVE.append (fun x hx=>hs x (by simp [hx])) ?_ r.2 r'
  simp only [List.length_drop,hl,List.length_cons,Nat.succ_mul];omega
theorem RepVE.takeE {E:Env} {s:Nat} : ∀ {es:List (List V)} {vs:List Value},(∀ e∈es,e.length=s)→RepVE E es vs→∀ i,RepVE E (es.take i) (vs.take (i * s))
 | es,vs,_,r,0=>by simp [RepVE]
 | [],vs,_,r,i+1=>by simp [RepVE]
 | e::es,vs,hs,r,i+1=>by
  simp only [RepVE] at r
  have he:e.length=s:=hs e (by simp)
  have hm:(i+1) * s=s+i * s:=by rw [Nat.succ_mul,Nat.add_comm]
  refine⟨?_,?_⟩
  ·have:=r.1.take s
   rw [List.take_of_length_le (by omega)] at this
   refine RepVL.mono (Hle.refl _) e _ _ ?_ (fun n _=>EExt.refl E n) this
   rw [hm,List.take_add]
   exact List.prefix_append _ _
  ·rw [he] at r ⊢
   have:=RepVE.takeE (fun x hx=>hs x (by simp [hx])) r.2 i
   rwa [hm,List.drop_take,Nat.add_sub_cancel_left]
theorem qJc (h:Ga C E σ a w) {es:List (List V)} {s:Nat} {b off:Nat} (hr:RepVE E es ((E.H b).drop off)) (hs:∀ e∈es,e.length=s) (hne:es≠[]) (hs0:0<s) :
  ∃ news,news.length=es.length * s∧RepVE E es news ∧ ∀ j u,news[j]? = some u→w.cell? ((⟨b,off,none⟩:Addr).add j)=some u:=by
 have hlen:∀ (es:List (List V)) (vs:List Value),(∀ e∈es,e.length=s)→RepVE E es vs→es.length * s≤vs.length:=by
  intro es
  induction es with
  | nil=>simp
  | cons e es ih =>
   intro vs hs r
   simp only [RepVE] at r
   have h1:=r.1.len
   grind [List.length_drop,List.length_cons,Nat.succ_mul]
 have hpos:0<es.length * s:=Nat.mul_pos (List.length_pos_iff.2 hne) hs0
 have hne':E.H b≠[]:=by
  grind
 obtain⟨c,T',fr,hcell,hpre,_⟩:=h.heap b hne'
 have hp1:=hpre.1
 refine⟨(c.toList.drop off).take (es.length * s),by grind,?_,?_⟩
 ·have:=RepVE.takeE hs hr es.length
  rw [List.take_length] at this
  exact this.msk ((hpre.drop off).take _)
 grind [qFm]
def zQg (E:Env) (ys:List (List V)) (v:Value):Prop :=
 (ys=[] ∧ ∃ ad c,v = .slice ad 0 c) ∨ ∃ b off c,v = .slice (some ⟨b,off,none⟩) ys.length c∧RepVE E ys ((E.H b).drop off)
theorem qW7 {y:V} {ys:List (List V)} {v:Value} (h:qYd y=some ys) (hy:RepV E y v):zQg E ys v:=by
 unfold qYd at h
 split at h
 ·cases h
  obtain⟨ad,c,rfl,_,_,hr⟩:=hy
  rcases hr with rfl|⟨b,off,rfl,hr⟩
  ·exact .inl ⟨rfl,_,_,rfl⟩
  ·exact .inr ⟨b,off,c,by simp [pvE],RepVE.of hr⟩
 ·cases h
  exact .inl ⟨rfl,_,_,hy⟩
 ·cases h
  obtain⟨ad,c,rfl,_,_,hr⟩:=hy
  rcases hr with rfl|⟨b,off,rfl,hr⟩
  ·exact .inl ⟨rfl,_,_,rfl⟩
  ·exact .inr ⟨b,off,c,rfl,hr⟩
 ·cases h
theorem qFy {y:V} {ys:List (List V)} (h:qYd y=some ys):∀ n∈qQw ys,n∈y.names:=by
 unfold qYd at h
 grind [qIi,qQw,V.names]
theorem qVt {t e:Nat} {te:TI} (hte:TIOK P e te) (hde:P.underlying t=some (.slice e)) {ad ad':Option Addr} {len cap c ty:Nat} (hle:len≤cap) :
  (Builtin.append_ #[t,t] ty #[.slice ad len cap,.slice ad' 0 c]).run P w = .ok (.slice ad len cap) w:=by
 cases ad<;>cases ad'<;>simp [Builtin.append_,run_underlying hde,hte.run_size,Builtin.lenOf,Builtin.firstCells,loadCells,loadCellsFrom,storeCells,hle]
theorem qAy (h:Ga C E σ a w) {t e:Nat} {te:TI} (hte:TIOK P e te) (hde:P.underlying t=some (.slice e)) {len sz ty ty' cap:Nat} {es:List (List V)} {ad:Option Addr} {xs:List Value} (hown:w.ownsRow 0 ty sz (.slice ad es.length cap) es.length xs)
  (hrx:RepVE E es xs) (hlen:∀ e∈es,e.length=sz) (hle:len≤es.length) (hlc:es.length≤cap) (hm:es.length≤maxLen) {v:Value}
  {ys:List (List V)} (hv:zQg E ys v) (hty:ty=e) (hsz:sz=te.size) (hs0:0<sz) (hys:∀ y∈ys,y.length=sz) (hone:∀ y∈ys,y.all V.one=true)
  (hmax:len+ys.length≤maxLen) (hby:(len+ys.length) * te.bytes≤140737488355328) :
  ∃ u' w' xs',(Builtin.append_ #[t,t] ty' #[.slice ad len cap,v]).run P w = .ok u' w'∧w'.ownsRow 0 ty sz u' (len+ys.length) xs'∧RepVE E (es.take len++ys) xs'∧(∃ news,xs'=xs.take (len * sz)++news) ∧
   w.heap.size≤w'.heap.size∧(w'.os=w.os∧w'.tape=w.tape∧w'.output=w.output)∧(∀ b,b<w.heap.size→blk u'≠some b→w'.heap[b]? = w.heap[b]?)∧(∀ b,blk u'=some b→w.heap.size≤b∨blk (.slice ad len cap)=some b):=by
 have hlen':∀ e∈es.take len,e.length=sz:=fun e he=>hlen e (List.mem_of_mem_take he)
 have hxs:RepVE E (es.take len) (xs.take (len * sz)):=hrx.takeE hlen len
 have hxl:(xs.take (len * sz)).length=len * sz:=by
  have:=hown.1
  have hm2:len * sz≤es.length * sz:=Nat.mul_le_mul_right _ hle
  simp;omega
 have htl:(es.take len).length=len:=by simp;omega
 obtain⟨hii,hinfo,hisz,hiby,hiz⟩:=hte.info
 by_cases hy0:ys=[]
 ·subst hy0
  have hvv:∃ ad' c,v = .slice ad' 0 c:=by
   rcases hv with ⟨_,h⟩|⟨b,off,c,rfl,_⟩
   ·exact h
   ·exact⟨_,c,rfl⟩
  obtain⟨ad',c,rfl⟩:=hvv
  refine⟨_,w,xs.take (len * sz),qVt hte hde (by omega),?_,by simpa using hxs,⟨[],by simp⟩,Nat.le_refl _,⟨rfl,rfl,rfl⟩,fun _ _ _=>rfl,fun b hb => .inr hb⟩
  simp only [List.length_nil,Nat.add_zero]
  refine⟨hxl,?_⟩
  rcases hown.2 with ⟨e0,h0⟩|⟨g,cap',cur,e0,hb0,hc,h1,h2,h3,h4⟩
  ·simp only [Value.slice.injEq] at e0
   obtain⟨rfl,e1,rfl⟩:=e0
   left
   have:len=0:=by omega
   exact⟨by rw [this],this⟩
  ·cases e0
   right
   refine⟨g,cap,cur,rfl,hb0,hc,by omega,h2,h3,?_⟩
   rw [← h4,List.take_take,Nat.min_eq_left]
   exact Nat.mul_le_mul_right _ hle
 ·have hv:∃ b off c,v = .slice (some ⟨b,off,none⟩) ys.length c∧RepVE E ys ((E.H b).drop off):=by
   rcases hv with ⟨e0,_⟩|hv
   ·exact absurd e0 hy0
   ·exact hv
  obtain⟨b',off',c',rfl,hsrc⟩:=hv
  obtain⟨news,hnl,hnr,hncell⟩:=qJc h hsrc hys hy0 hs0
  have hnone:∀ u∈news,u.oneCell'=true:=by
   have key:∀ (ys:List (List V)) (news:List Value),(∀ y∈ys,y.length=sz)→(∀ y∈ys,y.all V.one=true)→news.length=ys.length * sz→RepVE E ys news→∀ u∈news,u.oneCell'=true:=by
    intro ys
    induction ys with
    | nil =>
     intro news _ _ hl _ u hu
     have:news=[]:=List.eq_nil_of_length_eq_zero (by simpa using hl)
     subst this
     simp at hu
    | cons y ys ih =>
     intro news h1 h2 hl r u hu
     simp only [RepVE] at r
     have hy:y.length=sz:=h1 y (by simp)
     have hl':news.length=sz+ys.length * sz:=by rw [hl];simp only [List.length_cons,Nat.succ_mul];omega
     rw [← List.take_append_drop sz news] at hu
     rcases List.mem_append.1 hu with hu|hu
     ·have hr:=r.1.take sz
      rw [List.take_of_length_le (by omega)] at hr
      exact qFw (E:=E) (h2 y (by simp)) (by simp;omega) hr u hu
     ·rw [hy] at r
      exact ih (news.drop sz) (fun x hx=>h1 x (by simp [hx])) (fun x hx=>h2 x (by simp [hx])) (by simp;omega) r.2 u hu
   exact key ys news hys hone hnl hnr
  have hall:RepVE E (es.take len++ys) (xs.take (len * sz)++news):=RepVE.append (s:=sz) hlen' (by rw [hxl,htl]) hxs hnr
  have hal:(xs.take (len * sz)++news).length=(len+ys.length) * sz:=by rw [List.length_append,hxl,hnl,Nat.add_mul]
  have hpos:0<ys.length:=List.length_pos_iff.2 hy0
  have hsmall:len+ys.length≤9223372036854775807:=by simp only [maxLen] at hmax;omega
  have hzc:te.zero.cells.size=sz:=by rw [hte.zlen,hsz]
  have hgrown:∀ old,old<len+ys.length →
    (w.drew.alloc (.cells ((xs.take (len * sz)).toArray++news.toArray++Builtin.zeroCells te.zero.cells (grownCap w (len+ys.length) old e-(len+ys.length))) e)).ownsRow 0 e sz
     (.slice (some ⟨w.heap.size,0,none⟩) (len+ys.length) (grownCap w (len+ys.length) old e)) (len+ys.length) (xs.take (len * sz)++news):=by
   intro old ho
   have hge:=grownCap_ge w (len+ys.length) old e
   have hcm:grownCap w (len+ys.length) old e≤maxLen:=grownCap_le_maxLen w (len+ys.length) old e hmax
   refine⟨hal,.inr ⟨w.heap.size,_,_,rfl,Nat.zero_le _,heap_alloc_new w.drew _,hge,hcm,?_,?_⟩⟩
   ·simp only [Array.size_append,List.size_toArray,size_zeroCells,hzc,hxl,hnl,← Nat.add_mul]
    congr 1
    omega
   ·simp only [Array.toList_append]
    rw [← hal]
    exact List.take_left
  subst hty hsz
  rcases hown.2 with ⟨e0,h0⟩|⟨g,cap',cur,e0,hb0,hc,h1,h2,h3,h4⟩
  ·simp only [Value.slice.injEq] at e0
   obtain⟨rfl,e1,rfl⟩:=e0
   have hl0:len=0:=by omega
   subst hl0
   have hr:=run_append_nil (P:=P) w t ty' ty hii te.zero hde hinfo hiz ⟨b',off',none⟩ ys.length c' news (by rw [hisz];exact hnl) hncell hpos (by omega) (by rw [hiby];simp at hby;omega)
   have hgr:=hgrown 0 (by omega)
   simp only [Nat.zero_add,Nat.zero_mul,List.take_zero,List.nil_append,Array.empty_append] at hgr hall ⊢
   refine⟨_,_,_,by rw [hr],hgr,hall,⟨_,rfl⟩,by simp,⟨rfl,rfl,rfl⟩,fun b hb _=>heap_alloc_old w.drew _ b hb,fun b hb => ?_⟩
   simp [blk] at hb
   omega
  ·cases e0
   by_cases hroom:len+ys.length≤cap
   ·have hml:len * te.size≤es.length * te.size:=Nat.mul_le_mul_right _ hle
    have hmr:(len+ys.length) * te.size≤cap * te.size:=Nat.mul_le_mul_right _ hroom
    rw [Nat.add_mul] at hmr
    have hfit:len * hii.size+news.length≤cur.size:=by rw [hnl,h3,hisz];exact hmr
    have hr:=run_append_room (P:=P) w t ty' ty hii hde hinfo g len cap cur hc ⟨b',off',none⟩ ys.length c' news (by rw [hisz];exact hnl) hncell hnone hroom hfit
    refine⟨_,_,_,hr,⟨hal,.inr ⟨g,cap,_,rfl,hb0,setRow_heap w g cur _ ty _ hc,hroom,h2,?_,?_⟩⟩,hall,⟨_,rfl⟩,by simp,⟨rfl,rfl,rfl⟩,fun b hb hne=>setRow_other w g b _ (fun e=>hne (by simp [blk,e])),fun b hb => .inr hb⟩
    ·simp only [List.size_toArray,List.length_append,List.length_take,List.length_drop,Array.length_toList]
     omega
    ·have:xs.take (len * te.size)=cur.toList.take (len * te.size):=by
      rw [← h4,List.take_take,Nat.min_eq_left hml]
     rw [hisz,← this,← hal]
     exact List.take_left
   ·have holds:∀ j u,(xs.take (len * te.size))[j]? = some u→w.cell? ((⟨g,0,none⟩:Addr).add j)=some u:=by
     intro j u hj
     rw [qFm hc,Nat.zero_add]
     rw [List.getElem?_take] at hj
     split at hj
     ·rw [← h4,List.getElem?_take] at hj
      split at hj
      ·simpa using hj
      ·cases hj
     ·cases hj
    have hr:=run_append_grow (P:=P) w t ty' ty hii te.zero hde hinfo hiz ⟨g,0,none⟩ len cap (xs.take (len * te.size)) (by rw [hisz];exact hxl) holds ⟨b',off',none⟩ ys.length c' news (by rw [hisz];exact hnl) hncell (by omega) (by omega) (growslice_fits (by omega) (by rw [hiby];exact hby))
    refine⟨_,_,_,hr,hgrown cap (by omega),hall,⟨_,rfl⟩,by simp,⟨rfl,rfl,rfl⟩,fun b hb _=>heap_alloc_old w.drew _ b hb,fun b hb => ?_⟩
    simp [blk] at hb
    omega
theorem qIp (h:Ga C E σ a w) {t e:Nat} {te:TI} (hte:TIOK P e te) (hde:P.underlying t=some (.slice e)) {n ver len sz ty ty':Nat} {es:List (List V)} (hob:ObOK E w n (.arr ver sz ty es)) {u v:Value}
  (hu:RepV E (.arr n ver len) u) {ys:List (List V)} (hv:zQg E ys v) (hty:ty=e) (hsz:sz=te.size) (hs0:0<sz) (hys:∀ y∈ys,y.length=sz) (hone:∀ y∈ys,y.all V.one=true)
  (hmax:len+ys.length≤maxLen) (hby:(len+ys.length) * te.bytes≤140737488355328) :
  ∃ u' w' xs,(Builtin.append_ #[t,t] ty' #[u,v]).run P w = .ok u' w'∧w'.ownsRow 0 ty sz u' (len+ys.length) xs∧RepVE E (es.take len++ys) xs ∧
   w.heap.size≤w'.heap.size∧(w'.os=w.os∧w'.tape=w.tape∧w'.output=w.output)∧(∀ b,b<w.heap.size→blk u≠some b→w'.heap[b]? = w.heap[b]?)∧(∀ b,blk u'=some b→w.heap.size≤b∨blk u=some b):=by
 obtain⟨hver,hsz',hlen,xs,hown,hrx,hfree⟩:=id hob
 obtain⟨ad,cap,hgn,hu',hle,hlc,hm⟩:=qXy hob hu
 rw [hgn] at hown
 obtain⟨u',w',xs',h1,h2,h3,_,h4⟩:=qAy (ty':=ty') h hte hde hown hrx hlen hle hlc hm hv hty hsz hs0 hys hone hmax hby
 grind
theorem qJd {t:Nat} {x y:Operand} (ho:o.op = .call { callee:=.builtin .append,args:=#[x,y],argTypes:=#[t,t] }) {v:Value} {w':World}
  (h:(Builtin.append_ #[t,t] o.type #[a.eval x,a.eval y]).run P w = .ok v w'):OpRes P o a w v w':=by
 refine .inl ?_
 simp only [execOp,ho,resolve,invoke,builtin,Sem.run_bind,Sem.run_pure,Result.andThen_ok,List.map_toArray,List.map_cons,List.map_nil,h]
theorem qDu (l:List (Nat × Ob)) (n:Nat) (x y:Ob):qKp (qKp l n x) n y=qKp l n y:=by
 induction l with
 | nil=>simp [qKp]
 | cons p r ih =>
  grind [qKp]
theorem zWc (h:Ga C E σ a w) {n sz ty:Nat} (hn:n ∉ σ.used):∃ E',Ga C E' ⟨σ.slots,qKp σ.objs n (.arr 0 sz ty []),n::σ.used⟩ a w∧RepV E' (.arr n 0 0) (.slice none 0 0):=by
 let E':Env:={ H:=E.H,g:=fun m=>if m=n then .slice none 0 0 else E.g m,ver:=fun m=>if m=n then 0 else E.ver m,sz:=fun m=>if m=n then sz else E.sz m }
 have hg':E'.g n = .slice none 0 0:=by simp [E']
 have hv':E'.ver n=0:=by simp [E']
 have hs':E'.sz n=sz:=by simp [E']
 have hE:∀ m,m≠n→E'.g m=E.g m∧E'.ver m=E.ver m∧E'.sz m=E.sz m:=fun m hm=>⟨by grind,by grind,by grind⟩
 refine⟨E',?_,?_⟩
 ·refine h.change (E':=E') n (some (.arr 0 sz ty [])) (qKp σ.objs n (.arr 0 sz ty [])) (n::σ.used) none .undef (.slice none 0 0) (fun m=>qQm _ _ _ _) (Hle.refl _) hE (fun hk=>absurd hk hn) (fun hk=>absurd hk hn)
   (Nat.le_refl _) ⟨rfl,rfl,rfl⟩ (fun b hb _=>⟨rfl,rfl⟩) h.heap ?_ ?_ (fun m hm=>by simp [hm]) ?_ ?_ (fun d hd=>by cases hd)
  ·intro o' e
   cases e
   refine⟨⟨hv',hs',by simp,[],?_,by simp [RepVE],?_⟩,by simp,fun m hm=>by grind [Ob.names,qQw]⟩
   ·rw [hg'];exact World.ownsRow_nil _ _ _ _
   ·rw [hg'];intro b hb;simp [Value.ownBlock] at hb
  ·grind [blk]
  ·simp [RepV]
  ·simp [V.names]
 grind [RepV]
theorem qAz (h:Ga C E σ a w) (hd:∀ d,o.dst=some d→d<C.nt) {t e:Nat} {te:TI} (hte:TIOK P e te) (hde:P.underlying t=some (.slice e)) {x y:Operand}
  (ho:o.op = .call { callee:=.builtin .append,args:=#[x,y],argTypes:=#[t,t] }) {n ver len sz ty:Nat} {es ys:List (List V)} {yv:V} (eo:qQc σ.objs n=some (.arr ver sz ty es)) (hx:RepV E (.arr n ver len) (a.eval x))
  (nx:∀ m∈(V.arr n ver len).names,m∈σ.used) (es':qYd yv=some ys) (hy:RepV E yv (a.eval y)) (ny:∀ m∈yv.names,m∈σ.used) (hle:len≤es.length) (hty:ty=e) (hsz:sz=te.size) (hs0:0<sz) (hys:∀ y∈ys,y.length=sz)
  (hone:∀ y∈ys,y.all V.one=true) (hmax:len+ys.length≤maxLen) (hby:(len+ys.length) * te.bytes≤140737488355328) {cd:Prop} :
  Sound P C E σ a w o ⟨cd,True,.arr n (ver+1) (len+ys.length),some (n,.arr (ver+1) sz ty (es.take len++ys)),false⟩:=by
 have hob:=h.objs n _ eo
 have hyv:=qW7 es' hy
 have hyn:=qFy es'
 obtain⟨u',w',xs,hrun,hown,hrx,hsize,hrest,hblk,hnew⟩:=qIp (ty':=o.type) h hte hde hob hx hyv hty hsz hs0 hys hone hmax hby
 obtain⟨hver,hsz',hlen,_,_,_,_⟩:=id hob
 obtain⟨ad,cap,hgn,hu,hle',hlc,hm⟩:=qXy hob hx
 have hbu:blk (a.eval x)=blk (E.g n):=by rw [hu,hgn];cases ad<;>rfl
 rw [hbu] at hblk hnew
 let E':Env:={ H:=E.H,g:=fun m=>if m=n then u' else E.g m,ver:=fun m=>if m=n then ver+1 else E.ver m,sz:=E.sz }
 have hg':E'.g n=u':=by simp [E']
 have hv':E'.ver n=ver+1:=by simp [E']
 have hE:∀ m,m≠n→E'.g m=E.g m∧E'.ver m=E.ver m∧E'.sz m=E.sz m:=fun m hm=>⟨by simp [E',hm],by simp [E',hm],rfl⟩
 have hee:∀ m,EExt E E' m:=by
  intro m
  by_cases em:m=n
  ·subst em
   exact⟨rfl,.inr ⟨by rw [hv'];omega,_,_,_,hgn⟩⟩
  ·exact EExt.of_eq (hE m em).1 (hE m em).2.1 (hE m em).2.2
 have hfreeB:∀ b,blk u'=some b→E.H b=[]:=by
  intro b hb
  rcases hnew b hb with hge|hb'
  ·exact h.heap.lt hge
  ·exact hob.free rfl hb'
 have hobl:∀ b,u'.ownBlock=some b→blk u'=some b:=by
  intro b hb
  revert hb
  cases u'<;>simp [Value.ownBlock,blk]
  rename_i a' _ _
  cases a'<;>simp
 have htl:(es.take len).length=len:=by simp;omega
 refine⟨u',w',E',qJd ho hrun,?_,trivial⟩
 refine h.change (E':=E') n (some (.arr (ver+1) sz ty (es.take len++ys))) _ σ.used o.dst _ u' (fun m=>qQm _ _ _ _) (Hle.refl _) hE (fun _=>hee n) (fun _=>⟨_,eo⟩) hsize hrest
  (fun b hb hne=>⟨hblk b hb (hne _ eo),rfl⟩) ?_ ?_ ?_ (fun _ h=>h) ?_ ?_ hd
 ·intro b hb
  obtain⟨c,T',fr,hcell,hp⟩:=h.heap b hb
  refine⟨c,T',fr,?_,hp⟩
  rw [hblk b (Array.getElem?_eq_some_iff.1 hcell).1 (fun e=>hb (hob.free rfl e))]
  exact hcell
 ·intro o' e0
  cases e0
  refine⟨⟨hv',hsz',?_,xs,?_,?_,?_⟩,(h.usedO n _ eo).1,?_⟩
  ·intro e1 he1
   rcases List.mem_append.1 he1 with he1|he1
   ·exact hlen e1 (List.mem_of_mem_take he1)
   ·exact hys e1 he1
  ·rw [hg']
   have:(es.take len++ys).length=len+ys.length:=by rw [List.length_append,htl]
   rw [this]
   exact hown
  ·exact RepVE.mono (E:=E) (E':=E') (Hle.refl E.H) _ _ _ List.prefix_rfl (fun m _=>hee m) hrx
  ·intro b hb
   rw [hg'] at hb
   exact hfreeB b (hobl b hb)
  ·intro m hm
   simp only [Ob.names] at hm
   obtain⟨e1,he1,hm⟩:=mem_namesE.1 hm
   rcases List.mem_append.1 he1 with he1|he1
   ·exact (h.usedO n _ eo).2 m (mem_namesE.2 ⟨e1,List.mem_of_mem_take he1,hm⟩)
   ·exact ny m (hyn m (mem_namesE.2 ⟨e1,he1,hm⟩))
 ·intro o' b e0 hb
  rw [hg'] at hb
  rcases hnew b hb with hge|hb'
  ·exact .inl hge
  ·exact .inr ⟨hb',_,eo⟩
 ·simp only [RepV,hv',hg']
  have hsl:∃ a l c,u' = .slice a l c∧l=len+ys.length:=by
   rcases hown.2 with ⟨e1,e2⟩|⟨g,cap',cur,e1,_⟩
   ·exact⟨none,0,0,e1,e2.symm⟩
   ·exact⟨_,_,_,e1,rfl⟩
  obtain⟨a',l',c',e1,e2⟩:=hsl
  refine⟨Nat.le_refl _,⟨a',l',c',e1⟩,fun _=>⟨a',l',c',e1,?_,?_⟩⟩
  ·rw [e1,e2]
  ·omega
 ·intro m hm
  exact nx m hm
theorem zQh (h:Ga C E σ a w) {n sz ty:Nat} (hn:n ∉ σ.used):∃ E',Ga C E' ⟨σ.slots,qKp σ.objs n (.grow 0 sz ty []),n::σ.used⟩ a w∧RepV E' (.gsl n 0 []) (.slice none 0 0):=by
 let E':Env:={ H:=E.H,g:=fun m=>if m=n then .slice none 0 0 else E.g m,ver:=fun m=>if m=n then 0 else E.ver m,sz:=fun m=>if m=n then sz else E.sz m }
 have hg':E'.g n = .slice none 0 0:=by simp [E']
 have hv':E'.ver n=0:=by simp [E']
 have hs':E'.sz n=sz:=by simp [E']
 have hE:∀ m,m≠n→E'.g m=E.g m∧E'.ver m=E.ver m∧E'.sz m=E.sz m:=fun m hm=>⟨by grind,by grind,by grind⟩
 refine⟨E',?_,?_⟩
 ·refine h.change (E':=E') n (some (.grow 0 sz ty [])) (qKp σ.objs n (.grow 0 sz ty [])) (n::σ.used) none .undef (.slice none 0 0) (fun m=>qQm _ _ _ _) (Hle.refl _) hE (fun hk=>absurd hk hn) (fun hk=>absurd hk hn)
   (Nat.le_refl _) ⟨rfl,rfl,rfl⟩ (fun b hb _=>⟨rfl,rfl⟩) h.heap ?_ ?_ (fun m hm=>by simp [hm]) ?_ ?_ (fun d hd=>by cases hd)
  ·intro o' e
   cases e
   refine⟨⟨hv',hs',by simp,[],?_,by simp [RepE],?_⟩,by simp,fun m hm=>by grind [Ob.names]⟩
   ·rw [hg'];exact World.ownsRow_nil _ _ _ _
   ·rw [hg'];intro b hb;simp [Value.ownBlock] at hb
  ·intro o' b e hb
   rw [hg'] at hb
   simp [blk] at hb
  ·simp [RepV]
  ·simp [V.names]
 ·simp only [RepV,RepP,hv',hg']
  exact⟨⟨none,0,rfl,Nat.le_refl _,Nat.zero_le _,.inl trivial⟩,Nat.le_refl _,fun _=>trivial⟩
theorem Msk.pre {l m r:List Value} (h:Msk l m):Msk l (m++r):=by
 obtain⟨h1,h2,h3⟩:=h
 refine⟨by simp;omega,fun i v hi hv hb => ?_,fun i b hi => ?_⟩
 ·have:=h2 i v hi hv hb
  rw [List.getElem?_append_left (List.getElem?_eq_some_iff.1 this).1];exact this
 grind
theorem zQi {u:Value} {b:Nat} (h:u.ownBlock=some b):blk u=some b:=by
 revert h
 cases u<;>simp [Value.ownBlock,blk]
 grind
theorem qYi (h:Ga C E σ a w) (hd:∀ d,o.dst=some d→d<C.nt) {t e:Nat} {te:TI} (hte:TIOK P e te) (hde:P.underlying t=some (.slice e)) {x y:Operand}
  (ho:o.op = .call { callee:=.builtin .append,args:=#[x,y],argTypes:=#[t,t] }) {n ver sz ty:Nat} {es0 es ys:List (List PV)} (eo:qQc σ.objs n=some (.grow ver sz ty es)) (hx:RepV E (.gsl n ver es0) (a.eval x))
  (hy:RepV E (.pv (.slice ys)) (a.eval y)) (hty:ty=e) (hsz:sz=te.size) (hs0:0<sz) (hys:∀ y∈ys,y.length=sz)
  (hone:∀ y∈pvE ys,y.all V.one=true) (hmax:es.length+ys.length≤maxLen) (hby:(es.length+ys.length) * te.bytes≤140737488355328) {cd:Prop} :
  Sound P C E σ a w o ⟨cd,True,.gsl n (ver+1) (es++ys),some (n,.grow (ver+1) sz ty (es++ys)),false⟩:=by
 have hob:=h.objs n _ eo
 have hyv:=qW7 (y:=.pv (.slice ys)) (ys:=pvE ys) rfl hy
 obtain⟨hver,hsz',hlen,xs,hown,hrx,hf⟩:=id hob
 have hx':E.g n=a.eval x:=by grind [RepV]
 have pl:∀ l:List (List PV),(∀ e∈l,e.length=sz)→∀ e∈pvE l,e.length=sz:=fun l hl e he=>by
  obtain⟨y,hy,rfl⟩:=List.mem_map.1 he
  grind [pvL]
 have pe:∀ l:List (List PV),(pvE l).length=l.length:=fun l=>by simp [pvE]
 have hgn:∃ ad cap,E.g n = .slice ad es.length cap∧es.length≤cap∧es.length≤maxLen:=by
  rcases hown.2 with ⟨e1,e2⟩|⟨g,cap,cur,e1,_,_,h1,h2,_⟩
  ·grind
  grind
 obtain⟨ad,cap,hgn,hlc,hm⟩:=hgn
 have hown2:w.ownsRow 0 ty sz (.slice ad (pvE es).length cap) (pvE es).length xs:=by rw [pe,← hgn];exact hown
 obtain⟨u',w',xs',hrun,hown',hrx',⟨news,hnews⟩,hsize,hrest,hblk,hnew⟩:=qAy (ty':=o.type) (len:=es.length) h hte hde hown2 (RepVE.of hrx) (pl es hlen) (by rw [pe];omega) (by rw [pe];exact hlc) (by rw [pe];exact hm) hyv hty hsz hs0 (pl ys hys) hone (by rw [pe];exact hmax) (by rw [pe];exact hby)
 rw [pe] at hown'
 rw [List.take_of_length_le (by rw [pe];omega),show pvE es++pvE ys=pvE (es++ys) by simp [pvE]] at hrx'
 have hre:RepE E.H (es++ys) xs':=RepVE.toPv (qVq _) hrx'
 rw [List.take_of_length_le (by rw [hown.1];omega)] at hnews
 have hbu:blk (.slice ad es.length cap)=blk (E.g n):=by rw [hgn]
 rw [hbu] at hnew
 let H':Hp:=fun b=>if blk u'=some b then xs'.map sn else E.H b
 let E':Env:={ H:=H',g:=fun m=>if m=n then u' else E.g m,ver:=fun m=>if m=n then ver+1 else E.ver m,sz:=E.sz }
 have hg':E'.g n=u':=by simp [E']
 have hv':E'.ver n=ver+1:=by simp [E']
 have hHb:∀ b,blk u'=some b→H' b=xs'.map sn:=fun b hb=>by grind
 have hHn:∀ b,blk u'≠some b→H' b=E.H b:=fun b hb=>by grind
 have hE:∀ m,m≠n→E'.g m=E.g m∧E'.ver m=E.ver m∧E'.sz m=E.sz m:=fun m hm=>⟨by grind,by grind,rfl⟩
 have hee:EExt E E' n:=⟨rfl,.inr ⟨by rw [hv'];omega,_,_,_,hgn⟩⟩
 have hH:Hle E.H E'.H:=by
  intro b
  show E.H b <+: H' b
  by_cases hb:blk u'=some b
  ·rw [hHb b hb]
   rcases hnew b hb with hge|hb'
   ·rw [h.heap.lt hge];exact List.nil_prefix
   ·rw [hf b (by rw [hgn] at hb' ⊢;cases ad<;>simp [blk,Value.ownBlock] at hb' ⊢<;>exact hb'),hnews,List.map_append]
    exact List.prefix_append _ _
  simp_all
 refine⟨u',w',E',qJd ho (by rw [← hx',hgn];exact hrun),?_,trivial⟩
 refine h.change (E':=E') n (some (.grow (ver+1) sz ty (es++ys))) _ σ.used o.dst _ u' (fun m=>qQm _ _ _ _) hH hE (fun _=>hee) (fun _=>⟨_,eo⟩) hsize hrest ?_ ?_ ?_ ?_ (fun _ h=>h) ?_ ?_ hd
 ·intro b hb hne
  have hne:blk u'≠some b:=fun e=>by
   rcases hnew b e with h1|h1
   ·omega
   ·exact hne _ eo h1
  exact⟨hblk b hb hne,hHn b hne⟩
 ·intro b hb
  by_cases e1:blk u'=some b
  ·show ∃ c T fr,_∧Msk (H' b) _∧_
   rw [hHb b e1]
   rcases hown'.2 with ⟨e2,_⟩|⟨g,cap',cur,e2,_,hc,_,_,_,h4⟩
   ·rw [e2] at e1;simp [blk] at e1
   ·have:g=b:=by rw [e2] at e1;simpa [blk] using e1
    subst this
    refine⟨cur,ty,(0,0),hc,?_,.inl rfl⟩
    rw [← List.take_append_drop ((es.length+ys.length) * sz) cur.toList,h4]
    exact (Msk.sn xs').pre
  ·have hb2:E.H b≠[]:=by
    have:H' b≠[]:=hb
    rwa [hHn b e1] at this
   obtain⟨c,T',fr,hcell,hp⟩:=h.heap b hb2
   refine⟨c,T',fr,?_,by show Msk (H' b) _∧(_ ∨ ∀ v∈H' b,_);rw [hHn b e1];exact hp⟩
   rw [hblk b (Array.getElem?_eq_some_iff.1 hcell).1 e1]
   exact hcell
 ·intro o' e0
  cases e0
  refine⟨⟨hv',hsz',?_,xs',?_,?_,?_⟩,(h.usedO n _ eo).1,fun m hm=>by simp [Ob.names] at hm⟩
  ·intro e1 he1
   rcases List.mem_append.1 he1 with he1|he1
   ·exact hlen e1 he1
   ·exact hys e1 he1
  ·rw [hg',List.length_append];exact hown'
  ·exact RepE.mono hH _ _ _ List.prefix_rfl hre
  ·intro b hb
   rw [hg'] at hb
   exact hHb b (zQi hb)
 ·intro o' b e0 hb
  rw [hg'] at hb
  rcases hnew b hb with hge|hb'
  ·exact .inl hge
  ·exact .inr ⟨hb',_,eo⟩
 ·simp only [RepV,RepP,hv',hg']
  refine⟨?_,Nat.le_refl _,fun _=>trivial⟩
  rw [List.length_append]
  rcases hown'.2 with ⟨e1,e2⟩|⟨g,cap',cur,e1,_,_,h1,h2,_⟩
  ·exact⟨none,0,by rw [e1,e2],by omega,hmax,.inl (List.eq_nil_of_length_eq_zero (by rw [List.length_append];exact e2))⟩
  ·refine⟨_,cap',e1,h1,hmax,.inr ⟨g,0,rfl,?_⟩⟩
   show RepE H' _ ((H' g).drop 0)
   rw [List.drop_zero,hHb g (by rw [e1];rfl)]
   exact RepE.mono hH _ _ _ List.prefix_rfl hre.sn
 ·intro m hm
  simp only [V.names,List.mem_singleton] at hm
  subst hm
  exact (h.usedO m _ eo).1
theorem qFz (h:Ga C E σ a w) (hd:∀ d,o.dst=some d→d<C.nt) {t e:Nat} {te:TI} (hte:TIOK P e te) (hde:P.underlying t=some (.slice e)) {x y:Operand} (ho:o.op = .call { callee:=.builtin .append,args:=#[x,y],argTypes:=#[t,t] })
  {es ys:List (List PV)} (hx:RepV E (.fsl es) (a.eval x)) (hy:RepV E (.pv (.slice ys)) (a.eval y)) (hlen:∀ e∈es,e.length=te.size) (hlen2:∀ y∈ys,y.length=te.size) (hs0:0<te.size) (hne:ys≠[]) (hmax:es.length+ys.length≤maxLen)
  (hby:(es.length+ys.length) * te.bytes≤140737488355328) {cd:Prop} : Sound P C E σ a w o ⟨cd,True,.pv (.slice (es++ys)),none,false⟩:=by
 obtain⟨hii,hinfo,hisz,hiby,hiz⟩:=hte.info
 have pl:∀ (l:List (List PV)),(∀ e∈l,e.length=te.size)→∀ e∈pvE l,e.length=te.size:=by
  intro l hl e he
  obtain⟨e',he',rfl⟩:=List.mem_map.1 he
  grind [pvL]
 have hpl:∀ l:List (List PV),(pvE l).length=l.length:=by simp [pvE]
 -- what is appended
 rcases qW7 (y:=.pv (.slice ys)) (ys:=pvE ys) rfl hy with ⟨e0,_⟩|⟨b',off',c',hvv,hsr⟩
 ·grind
 obtain⟨news,hnl,hnr,hncell⟩:=qJc h hsr (pl ys hlen2) (by grind) hs0
 rw [hpl] at hnl hvv
 have hnr:=RepVE.toPv (qVq ys) hnr
 have hpos:0<ys.length:=List.length_pos_iff.2 hne
 have hsmall:es.length+ys.length≤9223372036854775807:=by simp only [maxLen] at hmax;omega
 -- what is there
 have hold:∃ ad xs,a.eval x = .slice ad es.length es.length∧xs.length=es.length * te.size∧RepE E.H es xs∧(es=[] ∨ ∃ b off,ad=some ⟨b,off,none⟩ ∧ ∀ j u,xs[j]? = some u→w.cell? ((⟨b,off,none⟩:Addr).add j)=some u):=by
  simp only [RepV] at hx
  obtain⟨ad,hv,_,hr⟩:=hx
  rcases hr with rfl|⟨b,off,rfl,hr⟩
  ·exact⟨ad,[],hv,by simp,by simp [RepE],.inl rfl⟩
  ·by_cases he:es=[]
   ·subst he
    exact⟨_,[],hv,by simp,by simp only [RepE],.inl rfl⟩
   ·obtain⟨xs,h1,h2,h3⟩:=qJc h (es:=pvE es) (RepVE.of hr) (pl es hlen) (by simpa [pvE] using he) hs0
    rw [hpl] at h1
    exact⟨_,xs,hv,h1,RepVE.toPv (qVq es) h2,.inr ⟨b,off,rfl,h3⟩⟩
 obtain⟨ad,xs,hxv,hxl,hxr,hxc⟩:=hold
 have hall:RepE E.H (es++ys) (xs++news):=by
  have:∀ (l:List (List PV)) (us:List Value),(∀ e∈l,e.length=te.size)→us.length=l.length * te.size→RepE E.H l us→RepE E.H (l++ys) (us++news):=by
   intro l
   induction l with
   | nil =>
    intro us _ hu _
    have:us=[]:=List.eq_nil_of_length_eq_zero (by simpa using hu)
    subst this
    simpa using hnr
   | cons e l ih =>
    intro us hl hu r
    simp only [RepE,List.cons_append] at r ⊢
    have he:=hl e (by simp)
    have hu':us.length=te.size+l.length * te.size:=by rw [hu];simp only [List.length_cons,Nat.succ_mul];omega
    refine⟨RepL.mono (Hle.refl _) e _ _ (List.prefix_append _ _) r.1,?_⟩
    rw [List.drop_append_of_le_length (by omega)]
    exact ih _ (fun x hx=>hl x (by simp [hx])) (by rw [List.length_drop];omega) r.2
  exact this es xs hlen hxl hxr
 -- the new row
 have fin:∀ (old:Nat),old<es.length+ys.length→(Builtin.append_ #[t,t] o.type #[a.eval x,a.eval y]).run P w = .ok (.slice (some ⟨w.heap.size,0,none⟩) (es.length+ys.length) (grownCap w (es.length+ys.length) old e)) (w.drew.alloc (.cells (xs.toArray++news.toArray++Builtin.zeroCells te.zero.cells (grownCap w (es.length+ys.length) old e-(es.length+ys.length))) e))→Sound P C E σ a w o ⟨cd,True,.pv (.slice (es++ys)),none,false⟩:=by
  intro old ho' hr
  obtain⟨E',hE'⟩:=h.drew.newRow (dst:=o.dst) hd e (xs.toArray++news.toArray++Builtin.zeroCells te.zero.cells (grownCap w (es.length+ys.length) old e-(es.length+ys.length))) (x:=.pv (.slice (es++ys))) (v:=.slice (some ⟨w.heap.size,0,none⟩) (es.length+ys.length) (grownCap w (es.length+ys.length) old e)) (by
   intro H' hH hnew
   simp only [RepV,RepP]
   refine⟨_,_,by rw [List.length_append],by rw [List.length_append];exact grownCap_ge w (es.length+ys.length) old e,by rw [List.length_append];exact hmax,.inr ⟨w.heap.size,0,rfl,?_⟩⟩
   have hnew':H' w.heap.size=(xs.toArray++news.toArray++Builtin.zeroCells te.zero.cells (grownCap w (es.length+ys.length) old e-(es.length+ys.length))).toList.map sn:=hnew
   rw [hnew']
   refine RepE.mono hH (es++ys) ((xs++news).map sn) _ ?_ hall.sn
   simp) (by simp [V.names])
  exact⟨_,_,E',qJd ho hr,hE',trivial⟩
 by_cases he:es=[]
 ·subst he
  have hx0:xs=[]:=List.eq_nil_of_length_eq_zero (by simpa using hxl)
  subst hx0
  simp only [List.length_nil,Nat.zero_add] at hxv fin hsmall hby
  cases ad with
  | none =>
   have hr:=run_append_nil (P:=P) w t o.type e hii te.zero hde hinfo hiz ⟨b',off',none⟩ ys.length c' news (by rw [hisz];exact hnl) hncell hpos (by omega) (by rw [hiby];omega)
   refine fin 0 hpos ?_
   rw [hxv,hvv,hr]
   simp
  | some ad =>
   have hr:=run_append_grow (P:=P) w t o.type e hii te.zero hde hinfo hiz ad 0 0 [] (by simp) (by intro j u hj;simp at hj) ⟨b',off',none⟩ ys.length c' news (by rw [hisz];exact hnl) hncell (by omega) (by omega) (growslice_fits (by omega) (by rw [hiby];simpa using hby))
   refine fin 0 hpos ?_
   rw [hxv,hvv,hr]
   simp
 ·rcases hxc with h0|⟨b,off,rfl,hcell⟩
  ·exact absurd h0 he
  ·have hr:=run_append_grow (P:=P) w t o.type e hii te.zero hde hinfo hiz ⟨b,off,none⟩ es.length es.length xs (by rw [hisz];exact hxl) hcell ⟨b',off',none⟩ ys.length c' news (by rw [hisz];exact hnl) hncell (by omega) (by omega) (growslice_fits (by omega) (by rw [hiby];exact hby))
   refine fin es.length (by omega) ?_
   rw [hxv,hvv,hr]
theorem qDv (h:Ga C E σ a w) (hg:GOK gl C.E0.H) (hd:∀ d,o.dst=some d→d<C.nt) (hT:TOK P T) {args:Array Operand} {argTypes:Array Nat} (ho:o.op = .call { callee:=.builtin .append,args,argTypes }) {r:R} (hc:r.cond)
  (hs:qQb T note (σ.val gl) (qQc σ.objs) o.dst (.call { callee:=.builtin .append,args,argTypes })=some r) (hn:∀ n x,r.wr=some (n,x)→r.new=true→n ∉ σ.used):Sound P C E σ a w o r:=by
 simp only [qQb] at hs
 split at hs
 ·rename_i t t' x y et ex
  have hat:argTypes = #[t,t']:=by rw [← Array.toArray_toList (xs:=argTypes),et]
  have hax:args = #[x,y]:=by rw [← Array.toArray_toList (xs:=args),ex]
  subst hat hax
  split at hs
  ·rename_i htt
   subst htt
   have hx:=qQd h hg x
   have hy:=qQd h hg y
   have nx:=qQi (gl:=gl) h x
   split at hs
   ·rename_i e s1 s2 s3 s4 et
    obtain⟨d,hde,hk⟩:=(hT t _ et).desc
    simp only [qK9] at hk
    subst hk
    split at hs
    ·rename_i te ee
     have hte:=hT e te ee
     unfold qQ4 at hs
     split at hs
     ·rename_i n ver len exv
      rw [exv] at hx nx
      split at hs
      ·rename_i ver' sz ty es ys eo es'
       cases hs
       obtain⟨rfl,hle,hty,hsz,hs0,hys,hone,hmax,hby⟩:=hc
       exact qAz h hd hte hde ho eo hx nx es' hy (qQi (gl:=gl) h y) hle hty hsz hs0 hys hone hmax hby
      ·cases hs
     ·rename_i n ver es0 exv
      rw [exv] at hx
      split at hs
      ·rename_i ver' sz ty es eo
       split at hs
       ·rename_i ys ey
        rw [ey] at hy
        cases hs
        obtain⟨⟨rfl,hty,hsz,hs0⟩,hys,hone,hmax,hby⟩:=hc
        exact qYi h hd hte hde ho eo hx hy hty hsz hs0 hys hone hmax hby
       ·cases hs
      ·cases hs
     ·rename_i es exv
      rw [exv] at hx
      split at hs
      ·rename_i ys ey
       rw [ey] at hy
       cases hs
       obtain⟨hlen,hlen2,hs0,hne,hmax,hby⟩:=hc
       exact qFz h hd hte hde ho hx hy hlen hlen2 hs0 hne hmax hby
      ·cases hs
     ·rename_i exv
      rw [exv] at hx
      have hxe:a.eval x = .slice none 0 0:=by simpa [RepV,RepP] using hx
      split at hs
      ·rename_i es ey
       cases hs
       obtain⟨hlen,hs0,hby⟩:=hc
       rw [ey] at hy
       obtain⟨hii,hinfo,hisz,hiby,hiz⟩:=hte.info
       by_cases hes:es=[]
       ·subst hes
        have hvv:∃ ad' c,a.eval y = .slice ad' 0 c:=by
         simp only [RepV,RepP] at hy
         obtain⟨ad',c,hv,_⟩:=hy
         exact⟨ad',c,hv⟩
        obtain⟨ad',c,hv⟩:=hvv
        have hr:=qVt (P:=P) (w:=w) (ty:=o.type) (ad:=none) (ad':=ad') (c:=c) (len:=0) (cap:=0) hte hde (Nat.le_refl _)
        refine Sound.pure h (v:=.slice none 0 0) (qJd ho ?_) ?_ (by simp [V.names]) hd trivial
        ·rw [hxe,hv];exact hr
        ·simp [RepV,RepP,maxLen]
       ·have hsrc:=qW7 (y:=.pv (.slice es)) (ys:=pvE es) rfl hy
        have hpe:pvE es≠[]:=by simpa [pvE] using hes
        have hplen:∀ e∈pvE es,e.length=te.size:=by
         intro e he
         obtain⟨e',he',rfl⟩:=List.mem_map.1 he
         simpa [pvL] using hlen e' he'
        rcases hsrc with ⟨e0,_⟩|⟨b',off',c',hvv,hsr⟩
        ·exact absurd e0 hpe
        obtain⟨news,hnl,hnr,hncell⟩:=qJc h hsr hplen hpe hs0
        have hpl:(pvE es).length=es.length:=by simp [pvE]
        rw [hpl] at hnl hvv
        have hnr:=RepVE.toPv (qVq es) hnr
        have hpos:0<es.length:=List.length_pos_iff.2 hes
        have hlm:es.length≤maxLen:=by
         simp only [RepV,RepP] at hy
         obtain⟨_,_,_,_,hm,_⟩:=hy
         exact hm
        have hr:=run_append_nil (P:=P) w t o.type e hii te.zero hde hinfo hiz ⟨b',off',none⟩ es.length c' news (by rw [hisz];exact hnl) hncell hpos (by simp only [maxLen] at hlm;omega) (by rw [hiby];omega)
        obtain⟨E',hE'⟩:=h.drew.newRow (dst:=o.dst) hd e (news.toArray++Builtin.zeroCells te.zero.cells (grownCap w es.length 0 e-es.length)) (x:=.pv (.slice es)) (v:=.slice (some ⟨w.heap.size,0,none⟩) es.length (grownCap w es.length 0 e)) (by
         intro H' hH hnew
         simp only [RepV,RepP]
         refine⟨_,_,rfl,grownCap_ge w es.length 0 e,hlm,.inr ⟨w.heap.size,0,rfl,?_⟩⟩
         have hnew':H' w.heap.size=(news.toArray++Builtin.zeroCells te.zero.cells (grownCap w es.length 0 e-es.length)).toList.map sn:=hnew
         rw [hnew']
         refine RepE.mono hH es (news.map sn) _ ?_ hnr.sn
         simp) (by simp [V.names])
        exact⟨_,_,E',qJd ho (by rw [hxe,hvv];exact hr),hE',trivial⟩
      ·rename_i n sz ty
       split at hs
       ·rename_i ys es'
        cases hs
        obtain⟨hty,hsz,hs0,hys,hone,hmax,hby⟩:=hc
        obtain⟨E₁,h₁,hx₁⟩:=zWc h (n:=n) (sz:=sz) (ty:=ty) (hn _ _ rfl rfl)
        have hyv:RepV E₁ ((σ.val gl) y) (a.eval y):=by
         have:=qQd (σ:=⟨σ.slots,qKp σ.objs n (.arr 0 sz ty []),n::σ.used⟩) h₁ hg y
         exact this
        obtain⟨v,w',E',h1,h2,h3⟩:=qAz (cd:=True) h₁ hd hte hde ho (n:=n) (ver:=0) (len:=0) (sz:=sz) (ty:=ty) (es:=[]) (ys:=ys) (by simp [qQm]) (hxe ▸ hx₁) (by simp [V.names]) es' hyv
         (fun m hm=>by simp [qQi (gl:=gl) h y m hm]) (Nat.le_refl _) hty hsz hs0 hys hone (by omega) (by simpa using hby)
        refine⟨v,w',E',h1,?_,trivial⟩
        simp only [St.app,qDu,List.take_nil,List.nil_append,Nat.zero_add] at h2
        exact h2
       ·cases hs
      ·rename_i ys n sz ty ey
       cases hs
       obtain⟨⟨hty,hsz,hs0,_⟩,hys,hone,hmax,hby⟩:=hc
       obtain⟨E₁,h₁,hx₁⟩:=zQh h (n:=n) (sz:=sz) (ty:=ty) (hn _ _ rfl rfl)
       have hyv:RepV E₁ ((σ.val gl) y) (a.eval y):=by
        have:=qQd (σ:=⟨σ.slots,qKp σ.objs n (.grow 0 sz ty []),n::σ.used⟩) h₁ hg y
        exact this
       rw [ey] at hyv
       obtain⟨v,w',E',h1,h2,h3⟩:=qYi (cd:=True) h₁ hd hte hde ho (n:=n) (ver:=0) (sz:=sz) (ty:=ty) (es0:=[]) (es:=[]) (ys:=ys) (by simp [qQm]) (hxe ▸ hx₁) hyv hty hsz hs0 hys hone (by simpa using hmax) (by simpa using hby)
       refine⟨v,w',E',h1,?_,trivial⟩
       simp only [St.app,qDu,List.nil_append,Nat.zero_add] at h2
       exact h2
      ·cases hs
     ·cases hs
    ·cases hs
   ·cases hs
  ·cases hs
 ·cases hs
theorem qL7 (h:Ga C E σ a w) (hg:GOK gl C.E0.H) (hd:∀ d,o.dst=some d→d<C.nt) {args:Array Operand} {argTypes:Array Nat} (ho:o.op = .call { callee:=.builtin .max,args,argTypes }) {r:R}
  (hs:qQb T note (σ.val gl) (qQc σ.objs) o.dst (.call { callee:=.builtin .max,args,argTypes })=some r):Sound P C E σ a w o r:=by
 simp only [qQb] at hs
 split at hs
 ·rename_i x y ex
  have hax:args = #[x,y]:=by rw [← Array.toArray_toList (xs:=args),ex]
  subst hax
  have hx:=qQd h hg x
  have hy:=qQd h hg y
  split at hs
  ·rename_i m n em en
   cases hs
   rw [em] at hx
   rw [en] at hy
   have hx:=qZa hx
   have hy:=qZa hy
   refine Sound.pure h (v:=.int .i64 (if n > m then n else m)) (.inl ?_) ?_ (by simp [V.names]) hd trivial
   ·simp [execOp,ho,resolve,invoke,builtin,Builtin.max_,Builtin.max2,hx,hy]
   rfl
  ·cases hs
 ·cases hs
theorem qL8 (h:Ga C E σ a w) (hg:GOK gl C.E0.H) (hd:∀ d,o.dst=some d→d<C.nt) {args:Array Operand} {argTypes:Array Nat} (ho:o.op = .call { callee:=.builtin .min,args,argTypes }) {r:R}
  (hs:qQb T note (σ.val gl) (qQc σ.objs) o.dst (.call { callee:=.builtin .min,args,argTypes })=some r):Sound P C E σ a w o r:=by
 simp only [qQb] at hs
 split at hs
 ·rename_i x y ex
  have hax:args = #[x,y]:=by rw [← Array.toArray_toList (xs:=args),ex]
  subst hax
  have hx:=qQd h hg x
  have hy:=qQd h hg y
  split at hs
  ·rename_i m n em en
   cases hs
   rw [em] at hx
   rw [en] at hy
   have hx:=qZa hx
   have hy:=qZa hy
   refine Sound.pure h (v:=.int .i64 (if n<m then n else m)) (.inl ?_) ?_ (by simp [V.names]) hd trivial
   ·simp [execOp,ho,resolve,invoke,builtin,Builtin.min_,Builtin.min2,hx,hy]
   rfl
  ·cases hs
 ·cases hs
end
end Go.Lg
