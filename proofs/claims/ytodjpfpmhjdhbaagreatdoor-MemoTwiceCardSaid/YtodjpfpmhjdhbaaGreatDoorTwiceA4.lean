/- The logic of contracts; no conditions. -/
import Derived.Test.YtodjpfpmhjdhbaaGreatDoorTwiceA3
import Derived.Laws.Tables
set_option linter.all false
namespace Go.Lg
section
variable {P:Program} {C:Ctx} {E:Env} {σ:St} {a:Act} {w:World} {gl:Nat→Option (List PV)} {o:Oper} {T:Nat→Option TI} {note:Note}
theorem Hle.zero (H:Hp):Hle (fun _=>[]) H:=fun _=>List.nil_prefix
theorem heapOK_alloc (hh:HeapOK E w) (ob:Obj) (E':Env) (hE:E'.H=E.H):HeapOK E' (w.alloc ob):=by
 intro b hb
 rw [hE] at hb ⊢
 obtain⟨c,T,fr,hc,hp⟩:=hh b hb
 exact⟨c,T,fr,by rw [heap_alloc_old w ob b (Array.getElem?_eq_some_iff.1 hc).1];exact hc,hp⟩
theorem Sound.newBox (h:Ga C E σ a w) (hd:∀ d,o.dst=some d→d<C.nt) {n t:Nat} {cs:List V} {c:Array Value} {cd:Prop} (hn:n ∉ σ.used)
  (hl:c.size=cs.length) (hr:RepVL E cs c.toList) (hnm:∀ m∈namesL cs,m∈σ.used)
  (hrun:OpRes P o a w (.pointer (some ⟨w.heap.size,0,none⟩)) (w.alloc (.cells c t))) :
  Sound P C E σ a w o ⟨cd,True,.loc n 0,some (n,.box cs),true⟩:=by
 let E':Env:={ E with g:=fun m=>if m=n then .pointer (some ⟨w.heap.size,0,none⟩) else E.g m }
 have hg':E'.g n = .pointer (some ⟨w.heap.size,0,none⟩):=by simp [E']
 have hE:∀ m,m≠n→E'.g m=E.g m∧E'.ver m=E.ver m∧E'.sz m=E.sz m:=fun m hm=>⟨by simp [E',hm],rfl,rfl⟩
 refine⟨_,_,E',hrun,?_,trivial⟩
 refine h.change (E':=E') n (some (.box cs)) (setO σ.objs n (.box cs)) (n::σ.used) o.dst (.loc n 0) _ (fun m=>getO_setO _ _ _ _) (Hle.refl _) hE (fun hk=>absurd hk hn) (fun hk=>absurd hk hn)
  (by simp) ⟨rfl,rfl,rfl⟩ (fun b hb _=>⟨heap_alloc_old w _ b hb,rfl⟩) (heapOK_alloc h.heap _ E' rfl) ?_ ?_ (fun m hm=>by simp [hm]) ?_ ?_ hd
 ·intro o' e
  cases e
  refine⟨⟨w.heap.size,c,t,hg',heap_alloc_new w _,hl,?_,h.heap.lt (Nat.le_refl _)⟩,by simp,fun m hm=>by simp [Ob.names] at hm;simp [hnm m hm]⟩
  refine RepVL.mono (E:=E) (E':=E') (Hle.refl E.H) cs _ _ List.prefix_rfl (fun m hm => ?_) hr
  have:m≠n:=fun e=>hn (e ▸ hnm m hm)
  exact EExt.of_eq (hE m this).1 (hE m this).2.1 (hE m this).2.2
 ·intro o' b e hb
  rw [hg'] at hb
  simp [blk] at hb
  omega
 ·exact⟨_,hg',rfl⟩
 ·simp [V.names]
theorem Ga.newRow (h:Ga C E σ a w) {dst:Option Nat} (hd:∀ d,dst=some d→d<C.nt) (t:Nat) (c:Array Value) {x:V} {v:Value} (hx:∀ H',Hle E.H H'→H' w.heap.size=c.toList→RepV { E with H:=H' } x v)
  (hxn:∀ n∈x.names,n∈σ.used):∃ E',Ga C E' ⟨putS dst x σ.slots,σ.objs,σ.used⟩ (a.put dst v) (w.alloc (.cells c t)):=by
 let H':Hp:=fun b=>if b=w.heap.size then c.toList else E.H b
 have h0:E.H w.heap.size=[]:=h.heap.lt (Nat.le_refl _)
 have hH:Hle E.H H':=by
  intro b
  by_cases e:b=w.heap.size
  ·subst e;rw [h0];exact List.nil_prefix
  ·simp [H',e]
 have hnew:H' w.heap.size=c.toList:=by simp [H']
 refine⟨{ E with H:=H' },?_⟩
 refine h.pure H' dst x v hH (by simp) ⟨rfl,rfl,rfl⟩ (fun b hb=>⟨heap_alloc_old w _ b hb,?_⟩) ?_ (hx H' hH hnew) hxn hd
 ·have:b≠w.heap.size:=by omega
  simp [H',this]
 ·intro b hb
  by_cases e:b=w.heap.size
  ·subst e
   refine⟨c,t,(0,0),heap_alloc_new w _,?_,.inl rfl⟩
   show Msk (H' w.heap.size) _
   rw [hnew]
   exact Msk.refl _
  ·have hb':E.H b≠[]:=by simpa [H',e] using hb
   obtain⟨c',T',fr,hc,hp⟩:=h.heap b hb'
   refine⟨c',T',fr,?_,by simpa [H',e] using hp.1,by simpa [H',e] using hp.2⟩
   rw [heap_alloc_old w _ b (Array.getElem?_eq_some_iff.1 hc).1]
   exact hc
theorem Ga.drew (h:Ga C E σ a w):Ga C E σ a w.drew :=
 ⟨h.slots,h.size,h.defers,h.heap,h.objs,h.apart,h.usedS,h.usedO,h.usedG,h.grown,h.rest,h.same,h.hle,h.own,h.ext,h.keep⟩
theorem Sound.newRow (h:Ga C E σ a w) (hd:∀ d,o.dst=some d→d<C.nt) {t:Nat} {c:Array Value} {cd:Prop} {x:V} {v:Value} (hx:∀ H',Hle E.H H'→H' w.heap.size=c.toList→RepV { E with H:=H' } x v)
  (hxn:∀ n∈x.names,n∈σ.used) (hrun:OpRes P o a w v (w.alloc (.cells c t))):Sound P C E σ a w o ⟨cd,True,x,none,false⟩:=by
 obtain⟨E',h'⟩:=h.newRow hd t c hx hxn
 exact⟨v,_,E',hrun,h',trivial⟩
theorem vcells_rep {x:V} {cs:List V} {v:Value} (h:vcells x=some cs) (hx:RepV E x v):v.cells.size=cs.length∧RepVL E cs v.cells.toList ∧ ∀ m∈namesL cs,m∈x.names:=by
 have one:∀ v':Value,(∀ c,v' ≠ .agg c)→v'.cells = #[v']:=by intro v' hv';cases v'<;>first|rfl|exact absurd rfl (hv' _)
 unfold vcells at h
 split at h
 ·cases h
  simp only [RepV,RepP] at hx
  obtain⟨vs,rfl,hl,hr⟩:=hx
  refine⟨by simpa [Value.cells] using hl,by have:=RepVL.ofPv hr;simp only [pvL] at this;simpa [Value.cells] using this,?_⟩
  intro m hm
  have:=namesL_pvL
  simp only [pvL] at this
  rw [this] at hm
  simp at hm
 ·cases h
 ·cases h
  simp only [RepV] at hx
  obtain⟨vs,rfl,hl,hr⟩:=hx
  exact⟨by simpa [Value.cells] using hl,by simpa [Value.cells] using hr,fun m hm=>by simpa [V.names] using hm⟩
 ·cases h
 ·cases h
 ·rename_i n1 n2 n3 n4 n5
  cases h
  have hv:∀ c,v ≠ .agg c:=by
   intro c e
   subst e
   cases x with
   | undef=>exact n5 rfl
   | pv p =>
    cases p with
    | agg cs=>exact n1 cs rfl
    | tuple cs=>exact n2 cs rfl
    | slice es=>simp only [RepV,RepP] at hx;obtain⟨_,_,h,_⟩:=hx;cases h
    | ptr es=>simp only [RepV,RepP] at hx;obtain⟨_,_,h,_⟩:=hx;cases h
    | iface t p=>simp only [RepV,RepP] at hx;obtain⟨_,h,_⟩:=hx;cases h
    | _=>simp [RepV,RepP] at hx
   | agg cs=>exact n3 cs rfl
   | tuple cs=>exact n4 cs rfl
   | fn f cs=>simp only [RepV] at hx;obtain⟨_,h,_⟩:=hx;cases h
   | bfn f cs=>simp only [RepV] at hx;obtain⟨_,h,_⟩:=hx;cases h
   | loc n off=>simp only [RepV] at hx;obtain⟨_,_,h⟩:=hx;cases h
   | eloc n ver i off=>simp only [RepV] at hx;obtain⟨_,⟨_,h⟩,_⟩:=hx;cases h
   | arr n ver len=>simp only [RepV] at hx;obtain⟨_,⟨_,_,_,h⟩,_⟩:=hx;cases h
   | vsl es=>simp only [RepV] at hx;obtain⟨_,_,h,_⟩:=hx;cases h
   | fsl es=>simp only [RepV] at hx;obtain⟨_,h,_⟩:=hx;cases h
   | map n=>simp only [RepV] at hx;obtain⟨_,_,h⟩:=hx;cases h
  rw [one v hv]
  exact⟨rfl,by simpa [RepVL] using hx,fun m hm=>by simpa [namesL] using hm⟩
theorem pcells_rep {H:Hp} {p:PV} {cs:List PV} {v:Value} (h:pcells p=some cs) (hx:RepP H p v):v.cells.size=cs.length∧RepL H cs v.cells.toList:=by
 unfold pcells at h
 split at h
 ·cases h
  simp only [RepP] at hx
  obtain⟨vs,rfl,hl,hr⟩:=hx
  exact⟨by simpa [Value.cells] using hl,by simpa [Value.cells] using hr⟩
 ·cases h
 ·rename_i n1 n2
  cases h
  have:v.cells = #[v]:=by
   cases p with
   | agg cs=>exact absurd rfl (n1 cs)
   | tuple cs=>exact absurd rfl (n2 cs)
   | slice es=>simp only [RepP] at hx;obtain⟨_,_,rfl,_⟩:=hx;rfl
   | ptr es=>simp only [RepP] at hx;obtain⟨_,_,rfl,_⟩:=hx;rfl
   | iface t p=>simp only [RepP] at hx;obtain⟨_,rfl,_⟩:=hx;rfl
   | _=>simp only [RepP] at hx;subst hx;rfl
  rw [this]
  exact⟨rfl,by simpa [RepL] using hx⟩
theorem sound_alloc (h:Ga C E σ a w) (hd:∀ d,o.dst=some d→d<C.nt) (hT:TOK P T) {t:Nat} (ho:o.op = .alloc t) {r:R} {val:Operand→V} {ob:Nat→Option Ob}
  (hs:stepOp T note val ob o.dst (.alloc t)=some r) (hn:∀ n x,r.wr=some (n,x)→r.new=true→n ∉ σ.used):Sound P C E σ a w o r:=by
 have key:∀ (ti:TI) (n:Nat),T t=some ti→n ∉ σ.used→Sound P C E σ a w o ⟨True,True,.loc n 0,some (n,.box (pvL ti.zc)),true⟩:=by
  intro ti n et hn
  have hti:=hT t ti et
  refine Sound.newBox h hd (t:=t) (c:=ti.zero.cells) hn (by rw [hti.zlen,pvL,List.length_map,hti.zc]) ?_ (by simp [namesL_pvL]) (.inl ?_)
  ·exact RepVL.ofPv (RepL.mono (Hle.zero _) _ _ _ List.prefix_rfl hti.zcells)
  ·simp [execOp,ho,Instr.alloc,hti.run_zero,newVar,newRow]
 simp only [stepOp] at hs
 split at hs
 ·cases hs
  exact key _ _ (by assumption) (hn _ _ rfl rfl)
 ·cases hs
  exact key _ _ (by assumption) (hn _ _ rfl rfl)
 ·cases hs
theorem sound_box (h:Ga C E σ a w) (hg:GOK gl C.E0.H) (hd:∀ d,o.dst=some d→d<C.nt) {t:Nat} {x:Operand} (ho:o.op = .box t x) {r:R} {ob:Nat→Option Ob}
  (hs:stepOp T note (σ.val gl) ob o.dst (.box t x)=some r) (hn:∀ n x,r.wr=some (n,x)→r.new=true→n ∉ σ.used):Sound P C E σ a w o r:=by
 have hx:=val_rep h hg x
 have nx:=val_names (gl:=gl) h x
 have hrun:OpRes P o a w (.pointer (some ⟨w.heap.size,0,none⟩)) (w.alloc (.cells (a.eval x).cells t)):=.inl (by simp [execOp,ho,Instr.box,newVar,newRow])
 simp only [stepOp] at hs
 split at hs
 ·rename_i n
  split at hs
  ·rename_i cs ec
   split at hs
   ·cases hs
    obtain⟨h1,h2,h3⟩:=vcells_rep ec hx
    exact Sound.newBox h hd (hn _ _ rfl rfl) h1 h2 (fun m hm=>nx m (h3 m hm)) hrun
   ·cases hs
  ·cases hs
 ·split at hs
  ·rename_i p ep
   split at hs
   ·rename_i cs ec
    cases hs
    rw [ep] at hx
    simp only [RepV] at hx
    obtain⟨h1,h2⟩:=pcells_rep ec hx
    refine Sound.newRow h hd (fun H' hH hnew => ?_) (by simp [V.names]) hrun
    simp only [RepV,RepP]
    refine⟨_,0,rfl,?_⟩
    rw [hnew]
    exact RepL.mono hH cs _ _ List.prefix_rfl h2
   ·cases hs
  ·cases hs
theorem fold_set (off:Nat):∀ (ys:List Value) (k:Nat) (cells:Array Value),off+k+ys.length≤cells.size →
  ((ys.zipIdx k).foldl (fun cs (p:Value × Nat)=>cs.setIfInBounds (off+p.2) p.1) cells).toList=cells.toList.take (off+k)++ys++cells.toList.drop (off+k+ys.length)
 | [],k,cells,_=>by simp
 | y::ys,k,cells,h=>by
  simp only [List.zipIdx_cons,List.foldl_cons]
  rw [fold_set off ys (k+1) _ (by simp at h ⊢;omega)]
  simp only [List.length_cons] at h ⊢
  have e:=list_seg_step cells.toList (off+k) y ys (by simp;omega)
  simpa [Array.toList_setIfInBounds,Nat.add_assoc,Nat.add_comm 1] using e
theorem putL_rep {cs ys:List V} {off:Nat} {vs us:List Value} (hl:vs.length=cs.length) (hu:us.length=ys.length) (ho:off+ys.length≤cs.length) (hr:RepVL E cs vs) (hy:RepVL E ys us) :
  RepVL E (putL cs off ys) (vs.take off++us++vs.drop (off+us.length)):=by
 unfold putL
 refine RepVL.append ?_ (RepVL.append ?_ (hr.take off) hy) ?_
 ·simp;omega
 ·simp;omega
 ·rw [hu];exact hr.drop _
theorem putL_len (cs ys:List V) (off:Nat) (ho:off+ys.length≤cs.length):(putL cs off ys).length=cs.length:=by
 simp [putL];omega
theorem putL_names (cs ys:List V) (off:Nat):∀ m∈namesL (putL cs off ys),m∈namesL cs∨m∈namesL ys:=by
 intro m hm
 obtain⟨c,hc,hm⟩:=mem_namesL.1 hm
 simp only [putL,List.mem_append] at hc
 rcases hc with (hc|hc)|hc
 ·exact .inl (mem_namesL.2 ⟨c,List.mem_of_mem_take hc,hm⟩)
 ·exact .inr (mem_namesL.2 ⟨c,hc,hm⟩)
 ·exact .inl (mem_namesL.2 ⟨c,List.mem_of_mem_drop hc,hm⟩)
theorem fill_rep {fs:List (Nat × Nat)} {place:Nat→Option (Nat × Nat)} (hp:∀ i p,fs[i]? = some p→place i=some p) :
  ∀ (parts:List (Nat × Operand)) (cs cs':List V) (cells:Array Value),cells.size=cs.length→RepVL E cs cells.toList→(∀ m∈namesL cs,m∈σ.used) →
   Ga C E σ a w→GOK gl C.E0.H→fillV fs cs (parts.map fun p=>(p.1,σ.val gl p.2))=some cs' →
   ∃ cells',Instr.fill place cells (parts.map fun p=>(p.1,a.eval p.2))=some cells'∧cells'.size=cs'.length∧RepVL E cs' cells'.toList ∧ ∀ m∈namesL cs',m∈σ.used
 | [],cs,cs',cells,hl,hr,hn,_,_,hf=>by
  simp only [List.map_nil,fillV,Option.some.injEq] at hf
  subst hf
  exact⟨cells,rfl,hl,hr,hn⟩
 | (i,x)::parts,cs,cs',cells,hl,hr,hn,h,hg,hf=>by
  simp only [List.map_cons,fillV] at hf
  split at hf
  ·rename_i off size ys e1 e2
   split at hf
   ·rename_i hc
    obtain⟨h1,h2,h3⟩:=vcells_rep e2 (val_rep h hg x)
    have hsz:off+(a.eval x).cells.size≤cells.size:=by rw [h1,hl];omega
    have e:=fold_set off (a.eval x).cells.toList 0 cells (by simpa using hsz)
    simp only [Nat.add_zero] at e
    have ih:=fill_rep hp parts (putL cs off ys) cs' ((a.eval x).cells.zipIdx.foldl (fun cs (p:Value × Nat)=>cs.setIfInBounds (off+p.2) p.1) cells)
     (by
      rw [← Array.length_toList,← Array.foldl_toList,Array.toList_zipIdx,e,putL_len cs ys off (by omega)]
      simp;omega)
     (by
      rw [← Array.foldl_toList,Array.toList_zipIdx,e]
      exact putL_rep (by simpa using hl) (by simpa using h1) (by omega) hr h2)
     (by
      intro m hm
      rcases putL_names cs ys off m hm with hm|hm
      ·exact hn m hm
      ·exact val_names h x m (h3 m hm)) h hg hf
    obtain⟨cells',hf',hrest⟩:=ih
    refine⟨cells',?_,hrest⟩
    have hcond:¬ ((a.eval x).cells.size≠size∨off+(a.eval x).cells.size > cells.size):=by rw [h1];omega
    simp only [List.map_cons,Instr.fill,hp i _ e1]
    rw [if_neg (by simpa using hcond)]
    exact hf'
   ·cases hf
  ·cases hf
theorem places_of {P:Program} : ∀ {ff:List Field} {fs:List (Nat × Nat)},ff.map (fun x=>(x.offset,(P.info? x.type).map (·.size)))=fs.map (fun p=>(p.1,some p.2)) →
  ff.mapM (fun f=>(P.info? f.type).map fun i=>(f.offset,i.size))=some fs
 | [],fs,h=>by
  cases fs with
  | nil=>rfl
  | cons p fs=>simp at h
 | f::ff,fs,h=>by
  cases fs with
  | nil=>simp at h
  | cons p fs =>
   simp only [List.map_cons,List.cons.injEq,Prod.mk.injEq] at h
   obtain⟨⟨h1,h2⟩,h3⟩:=h
   have ih:=places_of (P:=P) h3
   cases hi:P.info? f.type with
   | none=>rw [hi] at h2;cases h2
   | some i =>
    rw [hi] at h2
    simp only [Option.map_some,Option.some.injEq] at h2
    simp only [List.mapM_cons,hi,Option.map_some,ih]
    obtain⟨p1,p2⟩:=p
    simp only at h1 h2
    subst h1 h2
    rfl
theorem sound_build (h:Ga C E σ a w) (hg:GOK gl C.E0.H) (hd:∀ d,o.dst=some d→d<C.nt) (hT:TOK P T) {t:Nat} {parts:Array (Nat × Operand)} (ho:o.op = .build t parts) {r:R} {ob:Nat→Option Ob}
  (hs:stepOp T note (σ.val gl) ob o.dst (.build t parts)=some r):Sound P C E σ a w o r:=by
 simp only [stepOp] at hs
 split at hs
 ·rename_i fs s1 s2 s3 zc et
  have hti:=hT t _ et
  obtain⟨d,hde,hk⟩:=hti.desc
  simp only [TKOK] at hk
  obtain⟨ff,rfl,hmap⟩:=hk
  cases hf:fillV fs (pvL zc) (parts.toList.map fun p=>(p.1,σ.val gl p.2)) with
  | none=>rw [hf] at hs;cases hs
  | some cs =>
   rw [hf] at hs
   simp only [Option.map_some,Option.some.injEq] at hs
   subst hs
   obtain⟨cells',hfill,hl,hr,hn⟩:=fill_rep (gl:=gl) (fs:=fs) (place:=fun i=>fs.toArray[i]?) (by intro i p hp;simpa using hp) parts.toList (pvL zc) cs s3.cells
    (by rw [hti.zlen];simp [pvL];exact hti.zc.symm) (RepVL.ofPv (RepL.mono (Hle.zero _) _ _ _ List.prefix_rfl hti.zcells)) (by simp [namesL_pvL]) h hg hf
   refine Sound.pure h (v:=.agg cells') (.inl ?_) ?_ (fun m hm=>hn m (mkAgg_names _ m hm)) hd trivial
   ·obtain⟨it,hit,_,_,hz⟩:=hti.info
    have hb:P.built t (parts.toList.map fun p=>(p.1,a.eval p.2))=some cells':=by
     simp only [Program.built,hit,hde,hz,places_of hmap]
     exact hfill
    have hr:=run_build (P:=P) w t (parts.map fun p=>(p.1,a.eval p.2)) cells' (by simpa using hb)
    simp only [execOp,ho,Sem.run_bind]
    rw [hr]
    rfl
   ·have:=mkAgg_rep (vs:=cells'.toList) (by simpa using hl) hr
    simpa using this
 ·rename_i m e s1 s2 s3 zc et
  have hti:=hT t _ et
  obtain⟨d,hde,hk⟩:=hti.desc
  simp only [TKOK] at hk
  subst hk
  split at hs
  ·rename_i te ee
   have hte:=hT e te ee
   cases hf:fillV (placesA te.size m 0) (pvL zc) (parts.toList.map fun p=>(p.1,σ.val gl p.2)) with
   | none=>rw [hf] at hs;cases hs
   | some cs =>
    rw [hf] at hs
    simp only [Option.map_some,Option.some.injEq] at hs
    subst hs
    obtain⟨cells',hfill,hl,hr,hn⟩:=fill_rep (gl:=gl) (fs:=placesA te.size m 0) (place:=fun i=>some (i * te.size,te.size)) (by
      intro i p hp
      have:=placesA_get te.size m 0 i p hp
      rw [this]
      simp) parts.toList (pvL zc) cs s3.cells
     (by rw [hti.zlen];simp [pvL];exact hti.zc.symm) (RepVL.ofPv (RepL.mono (Hle.zero _) _ _ _ List.prefix_rfl hti.zcells)) (by simp [namesL_pvL]) h hg hf
    refine Sound.pure h (v:=.agg cells') (.inl ?_) ?_ (fun m hm=>hn m (mkAgg_names _ m hm)) hd trivial
    ·obtain⟨it,hit,_,_,hz⟩:=hti.info
     obtain⟨ie,hie,hsz,_⟩:=hte.info
     have hb:P.built t (parts.toList.map fun p=>(p.1,a.eval p.2))=some cells':=by
      simp only [Program.built,hit,hde,hz,hie,hsz]
      exact hfill
     have hr:=run_build (P:=P) w t (parts.map fun p=>(p.1,a.eval p.2)) cells' (by simpa using hb)
     simp only [execOp,ho,Sem.run_bind]
     rw [hr]
     rfl
    ·have:=mkAgg_rep (vs:=cells'.toList) (by simpa using hl) hr
     simpa using this
  ·cases hs
 ·cases hs
end
theorem one_rep {E:Env} {x:V} {v:Value} (h:x.one=true) (hx:RepV E x v):v.oneCell'=true:=by
 cases x with
 | undef=>simp [V.one] at h
 | pv p =>
  cases p with
  | agg cs=>simp [V.one] at h
  | tuple cs=>simp [V.one] at h
  | slice es=>simp only [RepV,RepP] at hx;obtain⟨_,_,rfl,_⟩:=hx;rfl
  | ptr es=>simp only [RepV,RepP] at hx;obtain⟨_,_,rfl,_⟩:=hx;rfl
  | iface t p=>simp only [RepV,RepP] at hx;obtain⟨_,rfl,_⟩:=hx;rfl
  | _=>simp only [RepV,RepP] at hx;subst hx;rfl
 | agg cs=>simp [V.one] at h
 | tuple cs=>simp [V.one] at h
 | fn f cs=>simp only [RepV] at hx;obtain⟨_,rfl,_⟩:=hx;rfl
 | bfn f cs=>simp only [RepV] at hx;obtain⟨_,rfl,_⟩:=hx;rfl
 | loc n off=>simp only [RepV] at hx;obtain⟨_,_,rfl⟩:=hx;rfl
 | eloc n ver i off=>simp only [RepV] at hx;obtain⟨_,⟨_,rfl⟩,_⟩:=hx;rfl
 | arr n ver len=>simp only [RepV] at hx;obtain⟨_,⟨_,_,_,rfl⟩,_⟩:=hx;rfl
 | vsl es=>simp only [RepV] at hx;obtain⟨_,_,rfl,_⟩:=hx;rfl
 | fsl es=>simp only [RepV] at hx;obtain⟨_,rfl,_⟩:=hx;rfl
 | map n=>simp only [RepV] at hx;obtain⟨_,_,rfl⟩:=hx;rfl
theorem one_all {E:Env} : ∀ {cs:List V} {vs:List Value},cs.all V.one=true→vs.length=cs.length→RepVL E cs vs→∀ v∈vs,v.oneCell'=true
 | [],[],_,_,_,v,hv=>by simp at hv
 | [],_::_,_,hl,_,_,_=>by simp at hl
 | c::cs,[],_,_,_,v,hv=>by simp at hv
 | c::cs,u::vs,h,hl,r,v,hv=>by
  simp only [List.all_cons,Bool.and_eq_true] at h
  simp only [RepVL] at r
  rcases List.mem_cons.1 hv with rfl|hv
  ·exact one_rep h.1 r.1
  ·exact one_all h.2 (by simpa using hl) r.2 v hv
section
variable {P:Program} {C:Ctx} {E:Env} {σ:St} {a:Act} {w:World} {gl:Nat→Option (List PV)} {o:Oper} {T:Nat→Option TI} {note:Note}
theorem heapOK_setRow (hh:HeapOK E w) {g:Nat} (hg:E.H g=[]) (c:Array Value):HeapOK E (w.setRow g c):=by
 intro b hb
 have:b≠g:=fun e=>hb (e ▸ hg)
 obtain⟨c',T,fr,hc,hp⟩:=hh b hb
 exact⟨c',T,fr,by rw [setRow_other w g b c this];exact hc,hp⟩
theorem Ga.setRow (h:Ga C E σ a w) {n g ty:Nat} {ob ob':Ob} {cur c:Array Value} (ho:getO σ.objs n=some ob) (hb:blk (E.g n)=some g) (hcur:w.heap[g]? = some (.cells cur ty (0,0)))
  (hok:ObOK E (w.setRow g c) n ob') (hnm:∀ m∈ob'.names,m∈σ.used) {dst:Option Nat} {x:V} {v:Value} (hx:RepV E x v) (hxn:∀ m∈x.names,m∈σ.used) (hd:∀ d,dst=some d→d<C.nt) :
  Ga C E ⟨putS dst x σ.slots,setO σ.objs n ob',σ.used⟩ (a.put dst v) (w.setRow g c):=by
 have hfree:=(h.objs n ob ho).free hb
 refine h.change (E':=E) n (some ob') (setO σ.objs n ob') σ.used dst x v (fun m=>getO_setO _ _ _ _) (Hle.refl _) (fun _ _=>⟨rfl,rfl,rfl⟩) (fun _=>EExt.refl _ _) (fun _=>⟨ob,ho⟩) (by simp) ⟨rfl,rfl,rfl⟩
  (fun b hlt hne=>⟨setRow_other w g b c (fun e=>hne ob ho (e ▸ hb)),rfl⟩) (heapOK_setRow h.heap hfree c) ?_ ?_ (fun _ h=>h) hx hxn hd
 ·intro o' e
  cases e
  exact⟨hok,(h.usedO n ob ho).1,hnm⟩
 ·intro o' b e hb'
  exact .inr ⟨hb',ob,ho⟩
theorem seg_get {α:Type} (l ys:List α) (off j:Nat) (h:off+ys.length≤l.length) :
  (l.take off++ys++l.drop (off+ys.length))[j]? = if j<off then l[j]? else if j<off+ys.length then ys[j-off]? else l[j]?:=by
 by_cases h1:j<off
 ·rw [if_pos h1,List.append_assoc,List.getElem?_append_left (by simp;omega),List.getElem?_take,if_pos h1]
 ·rw [if_neg h1,List.append_assoc,List.getElem?_append_right (by simp;omega)]
  have hl:(l.take off).length=off:=by simp;omega
  rw [hl]
  by_cases h2:j<off+ys.length
  ·rw [if_pos h2,List.getElem?_append_left (by omega)]
  ·rw [if_neg h2,List.getElem?_append_right (by omega),List.getElem?_drop]
   congr 1
   omega
theorem RepVL.iff:∀ {cs:List V} {vs:List Value},RepVL E cs vs ↔ ∀ (j:Nat) (c:V),cs[j]? = some c→∃ v,vs[j]? = some v∧RepV E c v
 | [],vs=>by simp [RepVL]
 | c::cs,[]=>by
  simp only [RepVL,false_iff]
  intro h
  obtain⟨v,hv,_⟩:=h 0 c rfl
  simp at hv
 | c::cs,v::vs=>by
  simp only [RepVL,RepVL.iff (cs:=cs) (vs:=vs)]
  constructor
  ·rintro⟨h1,h2⟩ j c' hj
   cases j with
   | zero=>simp at hj;subst hj;exact⟨v,rfl,h1⟩
   | succ j=>simpa using h2 j c' (by simpa using hj)
  ·intro h
   refine⟨?_,fun j c' hj=>by simpa using h (j+1) c' (by simpa using hj)⟩
   obtain⟨v',hv',hr⟩:=h 0 c rfl
   simp at hv'
   subst hv'
   exact hr
theorem RepVE.iff {s:Nat} : ∀ {es:List (List V)} {vs:List Value},(∀ e∈es,e.length=s)→(RepVE E es vs ↔ ∀ (i:Nat) (e:List V),es[i]? = some e→RepVL E e (vs.drop (i * s)))
 | [],vs,_=>by simp [RepVE]
 | e::es,vs,hs=>by
  have he:e.length=s:=hs e (by simp)
  simp only [RepVE,he,RepVE.iff (es:=es) (vs:=vs.drop s) (fun x hx=>hs x (by simp [hx])),List.drop_drop]
  constructor
  ·rintro⟨h1,h2⟩ i e' hi
   cases i with
   | zero=>simp at hi;subst hi;simpa using h1
   | succ i=>simpa [Nat.succ_mul,Nat.add_comm] using h2 i e' (by simpa using hi)
  ·intro h
   refine⟨by simpa using h 0 e rfl,fun i e' hi=>by simpa [Nat.succ_mul,Nat.add_comm] using h (i+1) e' (by simpa using hi)⟩
theorem RepVE.put {s:Nat} {es:List (List V)} {vs ys':List Value} {i off:Nat} {ys:List V} (hr:RepVE E es vs) (hs:∀ e∈es,e.length=s) (hi:i<es.length) (ho:off+ys.length≤s) (hl:ys'.length=ys.length)
  (hy:RepVL E ys ys') (hle:(i+1) * s≤vs.length):RepVE E (es.set i (putL (es.getD i []) off ys)) (vs.take (i * s+off)++ys'++vs.drop (i * s+off+ys'.length)):=by
 have hge:es[i]? = some (es.getD i []):=by rw [List.getD_eq_getElem?_getD,List.getElem?_eq_getElem hi];simp
 have hel:(es.getD i []).length=s:=hs _ (List.mem_of_getElem? hge)
 have hpl:(putL (es.getD i []) off ys).length=s:=by rw [putL_len _ _ _ (by omega),hel]
 have hsucc:(i+1) * s=i * s+s:=Nat.succ_mul i s
 rw [RepVE.iff hs] at hr
 rw [RepVE.iff (s:=s)]
 ·intro k e hk
  rw [RepVL.iff]
  intro j c hj
  rw [List.getElem?_drop,seg_get vs ys' (i * s+off) _ (by omega)]
  rw [List.getElem?_set] at hk
  by_cases hik:i=k
  ·subst hik
   simp only [if_true,hi] at hk
   cases hk
   have hjs:j<s:=by rw [← hpl];exact (List.getElem?_eq_some_iff.1 hj).1
   unfold putL at hj
   rw [seg_get _ _ _ _ (by omega)] at hj
   have hold:∀ c,(es.getD i [])[j]? = some c→∃ v,vs[i * s+j]? = some v∧RepV E c v:=by
    intro c hc
    have:=RepVL.iff.1 (hr i _ hge) j c hc
    simpa using this
   by_cases h1:j<off
   ·rw [if_pos h1] at hj
    rw [if_pos (by omega)]
    exact hold c hj
   ·rw [if_neg h1] at hj
    rw [if_neg (by omega)]
    by_cases h2:j<off+ys.length
    ·rw [if_pos h2] at hj
     rw [if_pos (by omega)]
     have:=RepVL.iff.1 hy (j-off) c hj
     rwa [show i * s+j-(i * s+off)=j-off by omega]
    ·rw [if_neg h2] at hj
     rw [if_neg (by omega)]
     exact hold c hj
  ·simp only [hik,if_false] at hk
   have hjs:j<s:=by rw [← hs e (List.mem_of_getElem? hk)];exact (List.getElem?_eq_some_iff.1 hj).1
   have hold:=RepVL.iff.1 (hr k e hk) j c hj
   rw [List.getElem?_drop] at hold
   rcases Nat.lt_or_gt_of_ne hik with hlt|hgt
   ·have hm:(i+1) * s≤k * s:=Nat.mul_le_mul_right _ hlt
    rw [if_neg (by omega),if_neg (by omega)]
    exact hold
   ·have hm:(k+1) * s≤i * s:=Nat.mul_le_mul_right _ hgt
    have hk1:(k+1) * s=k * s+s:=Nat.succ_mul k s
    rw [if_pos (by omega)]
    exact hold
 ·intro e he
  rcases List.mem_or_eq_of_mem_set he with he|he
  ·exact hs e he
  ·rw [he];exact hpl
theorem sound_store (h:Ga C E σ a w) (hg:GOK gl C.E0.H) (hT:TOK P T) {t:Nat} {x y:Operand} (ho:o.op = .store t x y) {r:R} (hc:r.cond)
  (hs:stepOp T note (σ.val gl) (getO σ.objs) o.dst (.store t x y)=some r):Sound P C E σ a w o r:=by
 have hx:=val_rep h hg x
 have hy:=val_rep h hg y
 have ny:=val_names (gl:=gl) h y
 simp only [stepOp] at hs
 split at hs
 ·rename_i ti hdn et
  have hd:∀ d,o.dst=some d→d<C.nt:=by intro d e;rw [hdn] at e;cases e
  have hti:=hT t ti et
  unfold stepStore at hs
  split at hs
  ·cases hs
  ·rename_i ys ey
   obtain⟨hy1,hy2,hy3⟩:=vcells_rep ey hy
   have hrun:∀ (g off ty:Nat) (cur:Array Value),a.eval x = .pointer (some ⟨g,off,none⟩)→w.heap[g]? = some (.cells cur ty (0,0))→off+ys.length≤cur.size→ys.length=ti.size→ys.all V.one=true →
     OpRes P o a w undef (w.setRow g (cur.toList.take off++(a.eval y).cells.toList++cur.toList.drop (off+ys.length)).toArray):=by
    intro g off ty cur hv hcur hle hsz hone
    refine .inr ⟨?_,rfl⟩
    have hst:=run_storeCells_at P g off ty (a.eval y).cells.toList 0 cur w hcur (by simp [hy1];omega) (one_all hone (by simpa using hy1) hy2)
    simp only [Nat.add_zero,Array.length_toList,hy1] at hst
    simp [execOp,ho,Instr.storeAt,Instr.sureAddr,hv,storeVar,hti.run_size,hy1,hsz,hst]
   split at hs
   ·rename_i n off ex
    rw [ex] at hx
    split at hs
    ·rename_i cs eo
     cases hs
     obtain⟨hc1,hc2,hc3⟩:=hc
     obtain⟨b,c,T',hgn,hcell,hsz,hr,hfree⟩:=id (h.objs n _ eo)
     simp only [RepV] at hx
     obtain⟨b',hgn',hv⟩:=hx
     rw [hgn] at hgn'
     cases hgn'
     refine⟨undef,_,E,hrun b off T' c hv hcell (by omega) hc1 hc3,?_,trivial⟩
     refine h.setRow (ob':=.box (putL cs off ys)) eo (by rw [hgn];rfl) hcell ⟨b,_,T',hgn,setRow_heap w b c _ T' _ hcell,?_,?_,hfree⟩ ?_ (by simp [RepV]) (by simp [V.names]) hd
     ·rw [putL_len cs ys off hc2]
      simp [hy1];omega
     ·have:=putL_rep (E:=E) (vs:=c.toList) (us:=(a.eval y).cells.toList) (by simpa using hsz) (by simpa using hy1) hc2 hr hy2
      simpa [hy1] using this
     ·intro m hm
      rcases putL_names cs ys off m hm with hm|hm
      ·exact (h.usedO n _ eo).2 m hm
      ·exact ny m (hy3 m hm)
    ·cases hs
   ·rename_i n ver i off ex
    rw [ex] at hx
    split at hs
    ·rename_i ver' sz ty es eo
     cases hs
     obtain⟨rfl,hi,hc1,hc2,hc3⟩:=hc
     have hob:=h.objs n _ eo
     obtain⟨hver,hsz,hlen,xs,hown,hrx,hfree⟩:=id hob
     simp only [RepV] at hx
     obtain⟨_,_,hx⟩:=hx
     obtain⟨b,L,cap,hgn,hv,hlt⟩:=hx hver.symm
     rcases hown.2 with ⟨e0,_⟩|⟨g,cap',cur,hgn',hb0,hcell,hle,hm,hcs,htake⟩
     ·rw [hgn] at e0;cases e0
     rw [hgn] at hgn'
     cases hgn'
     rw [hsz] at hv
     have hxl:xs.length=es.length * sz:=hown.1
     have hmul:(i+1) * sz≤es.length * sz:=Nat.mul_le_mul_right _ hi
     have hmul2:es.length * sz≤cap * sz:=Nat.mul_le_mul_right _ hle
     have hsucc:(i+1) * sz=i * sz+sz:=Nat.succ_mul i sz
     have hfit:i * sz+off+ys.length≤cur.size:=by rw [hcs];omega
     refine⟨undef,_,E,hrun b (i * sz+off) ty cur hv hcell hfit hc1 hc3,?_,trivial⟩
     have hput:=RepVE.put (ys:=ys) (ys':=(a.eval y).cells.toList) hrx hlen hi hc2 (by simpa using hy1) hy2 (by rw [hxl];exact hmul)
     have hge:es[i]? = some (es.getD i []):=by rw [List.getD_eq_getElem?_getD,List.getElem?_eq_getElem hi];simp
     have hel:(es.getD i []).length=sz:=hlen _ (List.mem_of_getElem? hge)
     have hpl:(putL (es.getD i []) off ys).length=sz:=by rw [putL_len _ _ _ (by omega),hel]
     refine h.setRow (ob':=.arr ver sz ty (es.set i (putL (es.getD i []) off ys))) eo (by rw [hgn];rfl) hcell ⟨hver,hsz,?_,_,⟨?_,.inr ⟨b,cap,_,?_,hb0,setRow_heap w b cur _ ty _ hcell,?_,hm,?_,rfl⟩⟩,?_,hfree⟩ ?_ (by simp [RepV]) (by simp [V.names]) hd
     ·intro e he
      rcases List.mem_or_eq_of_mem_set he with he|he
      ·exact hlen e he
      ·rw [he];exact hpl
     ·simp only [List.length_set,List.length_take,List.length_append,List.length_drop,Array.length_toList,hy1]
      omega
     ·simp [hgn]
     ·simpa using hle
     ·simp [hy1];omega
     ·have hcx:cur.toList.take (es.length * sz)=xs:=htake
      simp only [List.length_set]
      have:(cur.toList.take (i * sz+off)++(a.eval y).cells.toList++cur.toList.drop (i * sz+off+ys.length)).take (es.length * sz) =
        xs.take (i * sz+off)++(a.eval y).cells.toList++xs.drop (i * sz+off+(a.eval y).cells.toList.length):=by
       have hyl:(a.eval y).cells.toList.length=ys.length:=by simpa using hy1
       apply List.ext_getElem?
       intro j
       rw [List.getElem?_take,← hyl,seg_get _ _ _ _ (by simp;omega),seg_get _ _ _ _ (by omega)]
       rw [← hcx]
       simp only [List.getElem?_take]
       by_cases hj:j<es.length * sz
       ·simp [hj]
       ·rw [if_neg hj,if_neg (by omega),if_neg (by omega),if_neg hj]
      rw [this]
      exact hput
     ·intro m hm
      obtain⟨e,he,hm⟩:=mem_namesE.1 hm
      rcases List.mem_or_eq_of_mem_set he with he|he
      ·exact (h.usedO n _ eo).2 m (mem_namesE.2 ⟨e,he,hm⟩)
      ·subst he
       rcases putL_names _ _ _ m hm with hm|hm
       ·exact (h.usedO n _ eo).2 m (mem_namesE.2 ⟨_,List.mem_of_getElem? hge,hm⟩)
       ·exact ny m (hy3 m hm)
    ·cases hs
   ·cases hs
 ·cases hs
end
section
variable {P:Program} {C:Ctx} {E:Env} {σ:St} {a:Act} {w:World} {gl:Nat→Option (List PV)} {o:Oper} {T:Nat→Option TI} {note:Note}
theorem RepVE.cons {cs:List V} {es:List (List V)} {vs us:List Value} (hl:vs.length=cs.length) (h1:RepVL E cs vs) (h2:RepVE E es us):RepVE E (cs::es) (vs++us):=by
 simp only [RepVE]
 refine⟨RepVL.mono (Hle.refl _) cs vs _ (List.prefix_append _ _) (fun n _=>EExt.refl E n) h1,?_⟩
 rw [← hl,List.drop_left]
 exact h2
theorem parts_fill {size:Nat} (h:Ga C E σ a w) (hg:GOK gl C.E0.H):∀ (parts:List (Nat × Operand)) (k:Nat) (es:List (List V)) (cells:Array Value),
  sliceParts k (parts.map fun p=>(p.1,σ.val gl p.2))=some es→(∀ e∈es,e.length=size)→(k+es.length) * size≤cells.size →
  ∃ cells' us,Instr.fill (fun i=>some (i * size,size)) cells (parts.map fun p=>(p.1,a.eval p.2))=some cells'∧us.length=es.length * size∧RepVE E es us ∧
   cells'.toList=cells.toList.take (k * size)++us++cells.toList.drop ((k+es.length) * size) ∧ ∀ n∈namesE es,n∈σ.used
 | [],k,es,cells,hs,_,hle=>by
  simp only [List.map_nil,sliceParts,Option.some.injEq] at hs
  subst hs
  exact⟨cells,[],rfl,by simp,by simp [RepVE],by simp,by simp [namesE]⟩
 | (i,x)::parts,k,es,cells,hs,hlen,hle=>by
  simp only [List.map_cons,sliceParts] at hs
  split at hs
  ·rename_i hik
   subst hik
   split at hs
   ·rename_i cs es' e1 e2
    cases hs
    have hx:=val_rep h hg x
    obtain⟨h1,h2,h3⟩:=vcells_rep e1 hx
    have hcs:cs.length=size:=hlen cs (by simp)
    have hexp:(i+(cs::es').length) * size=i * size+size+es'.length * size:=by
     simp only [List.length_cons,Nat.add_mul,Nat.one_mul];omega
    have hexp2:(i+1+es'.length) * size=i * size+size+es'.length * size:=by
     simp only [Nat.add_mul,Nat.one_mul]
    have hexp3:(i+1) * size=i * size+size:=Nat.succ_mul i size
    rw [hexp] at hle
    have hsz:i * size+(a.eval x).cells.size≤cells.size:=by rw [h1,hcs];omega
    have e:=fold_set (i * size) (a.eval x).cells.toList 0 cells (by simpa using hsz)
    simp only [Nat.add_zero] at e
    have hfl:((a.eval x).cells.zipIdx.foldl (fun cs (p:Value × Nat)=>cs.setIfInBounds (i * size+p.2) p.1) cells).toList =
      cells.toList.take (i * size)++(a.eval x).cells.toList++cells.toList.drop (i * size+(a.eval x).cells.toList.length):=by
     rw [← Array.foldl_toList,Array.toList_zipIdx,e]
    have hsize:((a.eval x).cells.zipIdx.foldl (fun cs (p:Value × Nat)=>cs.setIfInBounds (i * size+p.2) p.1) cells).size=cells.size:=by
     rw [← Array.length_toList,hfl]
     simp;omega
    obtain⟨cells',us,hf,hu,hr,hc,hnm⟩:=parts_fill (size:=size) h hg parts (i+1) es' _ e2 (fun e he=>hlen e (by simp [he])) (by rw [hsize,hexp2];exact hle)
    refine⟨cells',(a.eval x).cells.toList++us,?_,?_,RepVE.cons (by simpa using h1) h2 hr,?_,?_⟩
    ·have hcond:¬ ((a.eval x).cells.size≠size∨i * size+(a.eval x).cells.size > cells.size):=by rw [h1,hcs];omega
     simp only [List.map_cons,Instr.fill]
     rw [if_neg (by simpa using hcond)]
     exact hf
    ·simp only [List.length_append,Array.length_toList,h1,hcs,hu,List.length_cons,Nat.add_mul,Nat.one_mul];omega
    ·rw [hc,hfl]
     have hl1:(cells.toList.take (i * size)++(a.eval x).cells.toList).length=(i+1) * size:=by simp [h1,hcs];omega
     have ht:(cells.toList.take (i * size)++(a.eval x).cells.toList++cells.toList.drop (i * size+(a.eval x).cells.toList.length)).take ((i+1) * size)=cells.toList.take (i * size)++(a.eval x).cells.toList:=by
      rw [← hl1];exact List.take_left
     have hd:(cells.toList.take (i * size)++(a.eval x).cells.toList++cells.toList.drop (i * size+(a.eval x).cells.toList.length)).drop ((i+1+es'.length) * size)=cells.toList.drop ((i+(cs::es').length) * size):=by
      rw [hexp,hexp2,← hexp3,← hl1,List.drop_append,List.drop_of_length_le (by omega),List.nil_append,List.drop_drop]
      congr 1
      simp only [Array.length_toList,h1,hcs]
      omega
     rw [ht,hd]
     simp
    ·intro n hn
     simp only [namesE,List.mem_append] at hn
     rcases hn with hn|hn
     ·exact val_names h x n (h3 n hn)
     ·exact hnm n hn
   ·cases hs
  ·cases hs
theorem run_buildSlice {t e len:Nat} {te:TI} (hte:TIOK P e te) (hde:P.underlying t=some (.slice e)) {parts:Array (Nat × Value)} {cells:Array Value} (hsz:len * te.size≤16777216)
  (hf:Instr.fill (fun i=>some (i * te.size,te.size)) ((Array.range (len * te.size)).map (fun j=>(if len * te.size=0 then #[] else te.zero.cells)[j % (if len * te.size=0 then #[] else te.zero.cells).size]!)) parts.toList=some cells) :
  (Instr.buildSlice t len parts).run P w = .ok (.slice (some ⟨w.heap.size,0,none⟩) len len) (w.alloc (.cells cells e)):=by
 have hn:¬ (len * te.size > 2 ^ 24):=by omega
 unfold Instr.buildSlice
 simp only [Sem.run_bind,run_underlying hde,Result.andThen_ok,hte.run_size,if_neg hn,Sem.run_pure]
 by_cases h0:len * te.size=0
 ·simp only [h0,if_true] at hf ⊢
  simp only [Sem.run_bind,Sem.run_pure,Result.andThen_ok,hf]
  simp [newRow]
 ·simp only [h0,if_false] at hf ⊢
  simp only [Sem.run_bind,Sem.run_pure,Result.andThen_ok,hte.run_zero,hf]
  simp [newRow]
theorem sound_buildSlice (h:Ga C E σ a w) (hg:GOK gl C.E0.H) (hd:∀ d,o.dst=some d→d<C.nt) (hT:TOK P T) {t len:Nat} {parts:Array (Nat × Operand)} (ho:o.op = .buildSlice t len parts) {r:R} (hc:r.cond) {ob:Nat→Option Ob}
  (hs:stepOp T note (σ.val gl) ob o.dst (.buildSlice t len parts)=some r) (hn:∀ n x,r.wr=some (n,x)→r.new=true→n ∉ σ.used):Sound P C E σ a w o r:=by
 simp only [stepOp] at hs
 split at hs
 ·rename_i e s1 s2 s3 s4 et
  obtain⟨d,hde,hk⟩:=(hT t _ et).desc
  simp only [TKOK] at hk
  subst hk
  split at hs
  ·rename_i te ee
   have hte:=hT e te ee
   split at hs
   ·rename_i es ep
    have key:(es.length=len∧len≤16777216∧len * te.size≤16777216 ∧ ∀ e∈es,e.length=te.size)→∃ cells,cells.size=es.length * te.size∧RepVE E es cells.toList∧(∀ n∈namesE es,n∈σ.used)∧OpRes P o a w (.slice (some ⟨w.heap.size,0,none⟩) es.length es.length) (w.alloc (.cells cells e)):=by
     rintro⟨hl,hlb,hsz,hlen⟩
     subst hl
     have hrest:∀ zero:Array Value,∃ cells us,Instr.fill (fun i=>some (i * te.size,te.size)) ((Array.range (es.length * te.size)).map (fun j=>zero[j % zero.size]!)) (parts.toList.map fun p=>(p.1,a.eval p.2))=some cells∧us.length=es.length * te.size∧RepVE E es us∧cells.toList=us ∧ ∀ n∈namesE es,n∈σ.used:=by
      intro zero
      obtain⟨cells',us,hf,hu,hr,hcl,hnm⟩:=parts_fill (size:=te.size) h hg parts.toList 0 es ((Array.range (es.length * te.size)).map (fun j=>zero[j % zero.size]!)) ep hlen (by simp)
      refine⟨cells',us,hf,hu,hr,?_,hnm⟩
      rw [hcl]
      simp
     obtain⟨cells,us,hf,hu,hr,hcl,hnm⟩:=hrest (if es.length * te.size=0 then #[] else te.zero.cells)
     refine⟨cells,by rw [← Array.length_toList,hcl,hu],by rw [hcl];exact hr,hnm,.inl ?_⟩
     have hrun:=run_buildSlice (P:=P) (w:=w) hte hde (parts:=parts.map fun p=>(p.1,a.eval p.2)) hsz (by simpa using hf)
     simp only [execOp,ho,Sem.run_bind]
     rw [hrun]
     rfl
    unfold stepRow at hs
    split at hs
    ·rename_i n sz ty
     cases hs
     have hnn:=hn n _ rfl rfl
     clear hn
     obtain⟨hc0,rfl,rfl⟩:=hc
     obtain⟨cells,hcs,hr,hnm,hrun⟩:=key hc0
     obtain⟨hl,hlb,hsz,hlen⟩:=hc0
     subst hl
     have hlm:es.length≤maxLen:=Nat.le_trans hlb (by simp [maxLen])
     let E':Env:={ H:=E.H,g:=fun m=>if m=n then .slice (some ⟨w.heap.size,0,none⟩) es.length es.length else E.g m,ver:=fun m=>if m=n then 0 else E.ver m,sz:=fun m=>if m=n then te.size else E.sz m }
     have hg':E'.g n = .slice (some ⟨w.heap.size,0,none⟩) es.length es.length:=by simp [E']
     have hv':E'.ver n=0:=by simp [E']
     have hs':E'.sz n=te.size:=by simp [E']
     have hE:∀ m,m≠n→E'.g m=E.g m∧E'.ver m=E.ver m∧E'.sz m=E.sz m:=fun m hm=>⟨by simp [E',hm],by simp [E',hm],by simp [E',hm]⟩
     refine⟨_,_,E',hrun,?_,trivial⟩
     refine h.change (E':=E') n (some (.arr 0 te.size ty es)) (setO σ.objs n (.arr 0 te.size ty es)) (n::σ.used) o.dst (.arr n 0 es.length) _ (fun m=>getO_setO _ _ _ _) (Hle.refl _) hE (fun hk=>absurd hk hnn) (fun hk=>absurd hk hnn)
      (by simp) ⟨rfl,rfl,rfl⟩ (fun b hb _=>⟨heap_alloc_old w _ b hb,rfl⟩) (heapOK_alloc h.heap _ E' rfl) ?_ ?_ (fun m hm=>by simp [hm]) ?_ ?_ hd
     ·intro o' e
      cases e
      refine⟨⟨hv',hs',hlen,cells.toList,?_,?_,?_⟩,by simp,fun m hm=>by simp [hnm m (by simpa [Ob.names] using hm)]⟩
      ·rw [hg']
       refine⟨by simpa using hcs,.inr ⟨w.heap.size,es.length,cells,rfl,Nat.zero_le _,heap_alloc_new w _,Nat.le_refl _,hlm,hcs,?_⟩⟩
       rw [← hcs,← Array.length_toList,List.take_length]
      ·refine RepVE.mono (E:=E) (E':=E') (Hle.refl E.H) es _ _ List.prefix_rfl (fun m hm => ?_) hr
       have:m≠n:=fun e=>hnn (e ▸ hnm m hm)
       exact EExt.of_eq (hE m this).1 (hE m this).2.1 (hE m this).2.2
      ·rw [hg']
       intro b hb
       simp [Value.ownBlock] at hb
       subst hb
       exact h.heap.lt (Nat.le_refl _)
     ·intro o' b e hb
      rw [hg'] at hb
      simp [blk] at hb
      omega
     ·simp only [RepV,hv',hg']
      exact⟨Nat.le_refl _,⟨_,_,_,rfl⟩,fun _=>⟨_,_,_,rfl,rfl,Nat.le_refl _⟩⟩
     ·simp [V.names]
    ·cases hs
     obtain⟨cells,hcs,hr,hnm,hrun⟩:=key hc
     obtain⟨hl,hlb,hsz,hlen⟩:=hc
     subst hl
     have hlm:es.length≤maxLen:=Nat.le_trans hlb (by simp [maxLen])
     refine Sound.newRow h hd (fun H' hH hnew => ?_) (fun n hn=>hnm n (mkSlice_names es n hn)) hrun
     refine mkSlice_rep (E:={ E with H:=H' }) (Nat.le_refl _) hlm ?_
     show RepVE _ es (H' w.heap.size)
     rw [hnew]
     exact RepVE.mono (E:=E) (E':={ E with H:=H' }) hH es _ _ List.prefix_rfl (fun n _=>EExt.of_eq rfl rfl rfl) hr
   ·cases hs
  ·cases hs
 ·cases hs
end
end Go.Lg
