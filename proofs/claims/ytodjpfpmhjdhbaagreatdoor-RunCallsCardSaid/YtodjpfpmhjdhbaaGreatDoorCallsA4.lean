/- Part of the proof: the logic of contracts, proved sound for the model; no conditions. -/
import Derived.Test.YtodjpfpmhjdhbaaGreatDoorCallsA3
import Derived.Defers
import Derived.Recover
set_option linter.unusedVariables false
set_option linter.unusedSimpArgs false
set_option linter.unusedSectionVars false
/- A region that draws its order, in which a call panics. -/
namespace Go.Lg

def checkDrawP (ops : List Oper) (es : List Eff) (jp : Nat) : Bool :=
  ((List.range (jp + 1)).all fun j => match ops[j]?, es[j]? with
    | some oj, some ej => (edges oj).all (fun i => decide (i < j)) && (List.range j).all fun i => match ops[i]?, es[i]? with
      | some oi, some ei => !conflict ops.toArray oi ei oj ej || ((masks ops []).getD j 0).testBit i
      | _, _ => false
    | _, _ => false) &&
  ((ops.drop (jp + 1)).all fun o => (edges o).any fun d => decide (jp ≤ d))

section
variable {X : Env1} {C : Ctx}

theorem draw_panic (hT : TOK X.P X.T) (hg : GOK X.gl C.E0.H) (hnt : C.nt = X.nt) {ops : List Oper} {es : List Eff} {σ : St} {Q : Exit → Act → World → Prop} (hlen : es.length = ops.length)
    {jp : Nat} {op : Oper} (hop : ops[jp]? = some op) (hgd : op.guard = none) {f : Nat} {args : List V} {objs : List (Nat × Ob)} {p : PV}
    (hf : calleeOf ((foldS (fun m => decide (m < jp)) 0 (zipD ops es) σ).val X.gl) op.op = some (f, args)) (hac : AC X.P X.gl f args objs (.panic p) [])
    (hsub : subO objs (foldS (fun m => decide (m < jp)) 0 (zipD ops es) σ).objs)
    (hep : es[jp]? = some ⟨.undef, [], [], keysO objs⟩)
    (htext : ∀ i o e, i < jp → ops[i]? = some o → es[i]? = some e → Txt X ops o (foldS (fun m => decide (m < i)) 0 (zipD ops es) σ) e) (hcheck : checkDrawP ops es jp = true)
    (hQ : ∀ E τ a w v, Ga C E τ a w → RepP E.H p v → Q (.panic [{ v, recovered := false }]) a w) :
    ∀ (fuel : Nat) (listed : Array Bool) (E : Env) (a : Act) (w : World), listed.size = ops.length → listed.toList.count false ≤ fuel → (∀ j, jp ≤ j → listed.getD j false = false) →
      (∀ j, listed.getD j false = true → ∀ i, ((masks ops []).getD j 0).testBit i = true → listed.getD i false = true) →
      Ga C E (foldS (fun m => listed.getD m false) 0 (zipD ops es) σ) a w → wpAny X.P .any ops.toArray Q fuel listed a w := by
  have hjl : jp < ops.length := (List.getElem?_eq_some_iff.1 hop).1
  -- what the check says
  unfold checkDrawP at hcheck
  rw [Bool.and_eq_true] at hcheck
  obtain ⟨hcheck, hpost⟩ := hcheck
  have hck : ∀ (j : Nat) (oj : Oper) (ej : Eff), j ≤ jp → ops[j]? = some oj → es[j]? = some ej → (∀ d ∈ edges oj, d < j) ∧ ∀ (i : Nat) (oi : Oper) (ei : Eff), i < j → ops[i]? = some oi → es[i]? = some ei → conflict ops.toArray oi ei oj ej = true → ((masks ops []).getD j 0).testBit i = true := by
    intro j oj ej hjp hoj hej
    rw [List.all_eq_true] at hcheck
    have hj := hcheck j (by simp; omega)
    simp only [hoj, hej, Bool.and_eq_true] at hj
    refine ⟨fun d hd => by simpa using List.all_eq_true.1 hj.1 d hd, ?_⟩
    intro i oi ei hij hoi hei hcf
    have hi := List.all_eq_true.1 hj.2 i (by simpa using hij)
    simp only [hoi, hei, hcf, Bool.not_true, Bool.false_or] at hi
    exact hi
  have hafterp : ∀ i o, jp < i → ops[i]? = some o → ∃ d ∈ edges o, jp ≤ d := by
    intro i o hi ho
    have hm : o ∈ ops.drop (jp + 1) := by
      rw [List.mem_iff_getElem?]
      refine ⟨i - (jp + 1), ?_⟩
      rw [List.getElem?_drop]
      have : jp + 1 + (i - (jp + 1)) = i := by omega
      rw [this]
      exact ho
    have := List.all_eq_true.1 hpost o hm
    obtain ⟨d, hd, h⟩ := List.any_eq_true.1 this
    exact ⟨d, hd, by simpa using h⟩
  have hget : ∀ (i : Nat) (o : Oper) (e : Eff), ops[i]? = some o → es[i]? = some e → (zipD ops es)[i]? = some (o.dst, e) := by
    intro i o e ho he
    simp [zipD, List.getElem?_zip_eq_some, ho, he]
  have hget' : ∀ (i : Nat) (d : Option Nat) (e : Eff), (zipD ops es)[i]? = some (d, e) → ∃ o, ops[i]? = some o ∧ o.dst = d ∧ es[i]? = some e := by
    intro i d e h
    simp only [zipD, List.getElem?_zip_eq_some, List.getElem?_map, Option.map_eq_some_iff] at h
    obtain ⟨⟨o, ho, hd⟩, he⟩ := h
    exact ⟨o, ho, hd, he⟩
  have hready : ∀ (S : Nat → Bool) (j : Nat) (oj : Oper), ops[j]? = some oj → (∀ d ∈ edges oj, S d = true) → (∀ k, S k = true → ∀ i, ((masks ops []).getD k 0).testBit i = true → S i = true) → ∀ i, ((masks ops []).getD j 0).testBit i = true → S i = true := by
    intro S j oj hoj hed hcl i hbit
    obtain ⟨ms', h1, h2⟩ := masks_at ops [] j oj hoj
    simp only [List.length_nil, Nat.zero_add] at h1
    rw [List.getD_eq_getElem?_getD, h1] at hbit
    simp only [Option.getD_some] at hbit
    rcases maskOf_bit ms' i _ 0 hbit with h0 | ⟨d, hd, h0⟩
    · simp at h0
    · rcases h0 with rfl | h0
      · exact hed d hd
      · rcases h2 d with h3 | h3
        · rw [h3] at h0; simp at h0
        · rw [h3] at h0
          exact hcl d (hed d hd) i h0
  have hnil : ∀ (listed : Array Bool), listed.size = ops.length → Region.ready .any ops.toArray listed = [] → ∀ i, i ≤ jp → listed.getD i false = true := by
    intro listed hs hnil i
    induction i using Nat.strongRecOn with
    | _ i ih =>
      intro hi
      cases hb : listed.getD i false with
      | true => rfl
      | false =>
        exfalso
        have hoi : ops[i]? = some ops[i] := List.getElem?_eq_getElem (by omega)
        have hei : es[i]? = some es[i] := List.getElem?_eq_getElem (by omega)
        have hmem : i ∈ Region.ready .any ops.toArray listed := by
          unfold Region.ready
          rw [List.mem_filter]
          refine ⟨by simp; omega, ?_⟩
          have h1 : listed.getD i true = false := by
            rw [Array.getD_eq_getD_getElem?] at hb ⊢
            rw [Array.getElem?_eq_getElem (by omega)] at hb ⊢
            simpa using hb
          simp only [h1, Bool.not_false, Bool.true_and, List.getElem?_toArray, hoi, Option.map_some, Option.getD_some]
          rw [Array.all_eq_true']
          intro ed hed
          by_cases hbd : Region.binds .any ed = true
          · have hlt := (hck i _ _ hi hoi hei).1 ed.on (List.mem_map_of_mem (List.mem_filter.2 ⟨by simpa using hed, hbd⟩))
            rw [ih ed.on hlt (by omega)]
            simp
          · simp [hbd]
        rw [hnil] at hmem
        simp at hmem
  intro fuel
  induction fuel with
  | zero =>
    intro listed E a w hs hcnt hun hcl hG
    exfalso
    have h0 : listed.toList.count false = 0 := by omega
    rw [List.count_eq_zero] at h0
    have := hun jp (Nat.le_refl _)
    rw [Array.getD_eq_getD_getElem?, Array.getElem?_eq_getElem (by omega)] at this
    simp only [Option.getD_some] at this
    exact h0 (by rw [← this]; simp)
  | succ fuel ih =>
    intro listed E a w hs hcnt hunp hcl hG
    refine ⟨fun hn => ?_, ?_⟩
    · have := hnil listed hs hn jp (Nat.le_refl _)
      rw [hunp jp (Nat.le_refl _)] at this
      cases this
    intro i hi
    unfold Region.ready at hi
    rw [List.mem_filter] at hi
    obtain ⟨hi, hrd⟩ := hi
    have hi : i < ops.length := by simpa using hi
    have hoi : ops[i]? = some ops[i] := List.getElem?_eq_getElem hi
    have hei : es[i]? = some es[i] := List.getElem?_eq_getElem (by omega)
    generalize ops[i] = o at hoi hrd
    generalize es[i] = e at hei
    simp only [List.getElem?_toArray, hoi, Option.map_some, Option.getD_some, Bool.and_eq_true, Bool.not_eq_true'] at hrd
    obtain ⟨hun, hpre⟩ := hrd
    have hSi : listed.getD i false = false := by
      rw [Array.getD_eq_getD_getElem?] at hun ⊢
      rw [Array.getElem?_eq_getElem (by omega)] at hun ⊢
      simpa using hun
    have hed : ∀ d ∈ edges o, listed.getD d false = true := by
      intro d hd
      obtain ⟨ed, hed, rfl⟩ := List.mem_map.1 hd
      obtain ⟨hed, hbd⟩ := List.mem_filter.1 hed
      rw [Array.all_eq_true'] at hpre
      have := hpre ed (by simpa using hed)
      simpa [hbd] using this
    have hip : i ≤ jp := by
      apply Nat.le_of_not_lt
      intro hgt
      obtain ⟨d, hd, hdp⟩ := hafterp i o hgt hoi
      have := hed d hd
      rw [hunp d hdp] at this
      cases this
    have hlt_of : ∀ j, listed.getD j false = true → j < jp := by
      intro j hj
      apply Nat.lt_of_not_le
      intro hle
      rw [hunp j hle] at hj
      cases hj
    have hbits := hready (fun m => listed.getD m false) i o hoi hed hcl
    have hbefore : ∀ (j : Nat) (oj : Oper) (ej : Eff), j < i → ops[j]? = some oj → es[j]? = some ej → conflict ops.toArray oj ej o e = true → listed.getD j false = true :=
      fun j oj ej hj hoj hej hc => hbits j ((hck i o e hip hoi hei).2 j oj ej hj hoj hej hc)
    have hafter : ∀ (j : Nat) (oj : Oper) (ej : Eff), i < j → ops[j]? = some oj → es[j]? = some ej → conflict ops.toArray o e oj ej = true → listed.getD j false = false := by
      intro j oj ej hj hoj hej hc
      cases hb : listed.getD j false with
      | false => rfl
      | true =>
        have := hcl j hb i ((hck j oj ej (Nat.le_of_lt (hlt_of j hb)) hoj hej).2 i o e hj hoi hei hc)
        rw [hSi] at this
        cases this
    have hslot : ∀ t, t ∈ o.looksAt ops.toArray → getS (foldS (fun m => decide (m < i)) 0 (zipD ops es) σ).slots t = getS (foldS (fun m => listed.getD m false) 0 (zipD ops es) σ).slots t := by
      intro t ht
      refine foldS_slot t _ 0 σ σ (fun j d e' hj hd => ?_) rfl
      rw [Nat.zero_add]
      obtain ⟨oj, hoj, hdj, hej⟩ := hget' j d e' hj
      rw [hd] at hdj
      rcases Nat.lt_trichotomy j i with hlt | heq | hgt
      · have hc : conflict ops.toArray oj e' o e = true := by
          simp only [conflict, hdj, List.contains_eq_mem, ht, decide_true, Bool.true_or]
        rw [hbefore j oj e' hlt hoj hej hc]
        simp [hlt]
      · subst heq
        rw [hSi]
        simp
      · have hc : conflict ops.toArray o e oj e' = true := by
          simp only [conflict, hdj, List.contains_eq_mem, ht, decide_true, Bool.or_true, Bool.true_or]
        rw [hafter j oj e' hgt hoj hej hc]
        simp; omega
    have hobj : ∀ n, n ∈ e.rd → getO (foldS (fun m => decide (m < i)) 0 (zipD ops es) σ).objs n = getO (foldS (fun m => listed.getD m false) 0 (zipD ops es) σ).objs n := by
      intro n hn
      refine foldS_obj n _ 0 σ σ (fun j d e' hj hd => ?_) rfl
      rw [Nat.zero_add]
      obtain ⟨oj, hoj, hdj, hej⟩ := hget' j d e' hj
      rcases Nat.lt_trichotomy j i with hlt | heq | hgt
      · have hc : conflict ops.toArray oj e' o e = true := by
          simp only [conflict, Bool.or_eq_true, List.any_eq_true]
          exact .inl (.inr ⟨n, hd, .inl (by simpa using hn)⟩)
        rw [hbefore j oj e' hlt hoj hej hc]
        simp [hlt]
      · subst heq
        rw [hSi]
        simp
      · have hc : conflict ops.toArray o e oj e' = true := by
          simp only [conflict, Bool.or_eq_true, List.any_eq_true]
          exact .inr ⟨n, hd, by simpa using hn⟩
        rw [hafter j oj e' hgt hoj hej hc]
        simp; omega
    have hval : ∀ x ∈ o.op.operands, (foldS (fun m => decide (m < i)) 0 (zipD ops es) σ).val X.gl x = (foldS (fun m => listed.getD m false) 0 (zipD ops es) σ).val X.gl x := by
      intro x hx
      cases x with
      | tmp t =>
        refine hslot t ?_
        simp only [Oper.looksAt, List.mem_append, List.mem_filterMap]
        exact .inl ⟨.tmp t, by simpa using hx, rfl⟩
      | const v => rfl
      | func f => rfl
      | global g => rfl
    by_cases hii : i = jp
    · subst hii
      rw [hop] at hoi
      cases hoi
      rw [hep] at hei
      cases hei
      unfold wpOp
      simp only [List.getElem?_toArray, hop]
      rw [if_pos (by simp [Region.wanted, hgd])]
      left
      have hf' := hf
      rw [calleeOf_congr hval] at hf'
      have hsub' := subO_congr (fun n hn => hobj n hn) hsub
      obtain ⟨vs, hl, hrv, hrun, hnm⟩ := call_enter hG hg hf' hac.direct
      unfold Oper.wp
      rw [hrun]
      simp only [Oper.upon]
      have hsub2 := subO_spec hsub'
      have hbase : Base X.gl E w objs := ⟨hG.heap, hg.mono hG.hle, fun n o hn => hG.objs n o (hsub2 n o hn), fun n m o o' hn hm => hG.apart n m o o' (hsub2 n o hn) (hsub2 m o' hm)⟩
      refine (hac.calls E w vs hbase hl hrv).mono ?_
      rintro e' w' ⟨E', hD, v, rfl, hv⟩
      have hG' := hG.called (dst := none) (x := .undef) (v := undef) hD hsub2 (by simp [keysO]) (ment_used hG hnm hsub') hac.namesO (by simp [RepV]) (by simp [V.names]) (by simp)
      exact hQ E' _ a w' v hG' hv
    have hip : i < jp := by omega
    have htx := htext i o e hip hoi hei
    have hnw : ∀ (j : Nat) (oj : Oper) (ej : Eff), j < jp → ops[j]? = some oj → es[j]? = some ej → ∀ n ∈ ej.nw, n ∉ (foldS (fun m => decide (m < j)) 0 (zipD ops es) σ).used := by
      intro j oj ej hjp hoj hej n hn
      have := htext j oj ej hjp hoj hej
      have key : ∀ s, OpW X oj s ej → ∀ n ∈ ej.nw, n ∉ s.used := by
        intro s hw
        cases hw with
        | step r hs hc hnn => exact hnn
        | call f args objs x objs' hf hac hsub hnn => exact hnn
        | callR f args ro objs x objs' hf hac hro hsub hnn => exact hnn
      rcases this.2 with ⟨_, hw⟩ | ⟨_, _, _, _, _, ⟨_, hw⟩ | ⟨_, rfl⟩⟩ | ⟨_, _, _, _, rfl⟩
      · exact key _ hw n hn
      · exact key _ hw n hn
      · simp [skipE] at hn
      · simp [skipE] at hn
    have hnew : ∀ n ∈ e.nw, n ∉ (foldS (fun m => listed.getD m false) 0 (zipD ops es) σ).used := by
      intro n hn hu
      rw [foldS_used] at hu
      have h0 := hnw i o e hip hoi hei n hn
      rw [foldS_used] at h0
      simp only [not_or, not_exists, not_and] at h0
      rcases hu with hu | ⟨j, d, ej, hj, hSj, hnj⟩
      · exact h0.1 hu
      · rw [Nat.zero_add] at hSj
        obtain ⟨oj, hoj, hdj, hej⟩ := hget' j d ej hj
        rcases Nat.lt_trichotomy j i with hlt | heq | hgt
        · exact h0.2 j d ej hj (by simpa using hlt) hnj
        · subst heq; rw [hSi] at hSj; cases hSj
        · have h1 := hnw j oj ej (hlt_of j hSj) hoj hej n hnj
          rw [foldS_used] at h1
          simp only [not_or, not_exists, not_and] at h1
          exact h1.2 i o.dst e (hget i o e hoi hei) (by simpa using hgt) hn
    have hd : ∀ d, o.dst = some d → d < C.nt := by
      intro d hd'
      have := htx.1
      rw [hd'] at this
      rw [hnt]
      exact this
    have hnext : ∀ E' a' w', Ga C E' ((foldS (fun m => listed.getD m false) 0 (zipD ops es) σ).eff o.dst e) a' w' → wpAny X.P .any ops.toArray Q fuel (listed.setIfInBounds i true) a' w' := by
      intro E' a' w' hG'
      have hS' : (fun m => (listed.setIfInBounds i true).getD m false) = fun m => m == 0 + i || listed.getD m false := by
        funext m
        rw [Nat.zero_add, Array.getD_eq_getD_getElem?, Array.getD_eq_getD_getElem?]
        by_cases e1 : m = i
        · subst e1
          rw [Array.getElem?_setIfInBounds_self_of_lt (by omega)]
          simp
        · rw [Array.getElem?_setIfInBounds_ne (fun h => e1 h.symm)]
          simp [e1]
      have e1 : ∀ m, (listed.setIfInBounds i true).getD m false = (m == 0 + i || listed.getD m false) := fun m => congrFun hS' m
      refine ih (listed.setIfInBounds i true) E' a' w' (by simpa using hs) ?_ ?_ ?_ ?_
      · have := count_set listed.toList i (by
          rw [Array.getElem?_toList, Array.getElem?_eq_getElem (by omega)]
          rw [Array.getD_eq_getD_getElem?, Array.getElem?_eq_getElem (by omega)] at hSi
          simpa using hSi)
        rw [Array.toList_setIfInBounds]
        omega
      · intro j hj
        rw [e1, hunp j hj]
        simp; omega
      · intro j hj k hk
        rw [e1] at hj ⊢
        simp only [Nat.zero_add, Bool.or_eq_true, beq_iff_eq] at hj ⊢
        right
        rcases hj with rfl | hj
        · exact hbits k hk
        · exact hcl j hj k hk
      · rw [hS']
        refine hG'.of_ext ?_ ?_ ?_
        · intro t
          rw [foldS_slot_add t _ 0 i o.dst e σ (hget i o e hoi hei) (by simpa using hSi)]
          · simp [St.eff, getS_putS]
          · intro hdt j d' e' hij hj hSj hd'
            rw [Nat.zero_add] at hSj
            obtain ⟨oj, hoj, hdj, hej⟩ := hget' j d' e' hj
            rw [hd'] at hdj
            have hc : conflict ops.toArray o e oj e' = true := by simp [conflict, hdt, hdj]
            have := hafter j oj e' hij hoj hej hc
            rw [hSj] at this
            cases this
        · intro n
          rw [foldS_obj_add n _ 0 i o.dst e σ (hget i o e hoi hei) (by simpa using hSi)]
          · simp only [St.eff, getO_updAll]
            cases lookW e.wr n <;> rfl
          · intro hdt j d' e' hij hj hSj hd'
            rw [Nat.zero_add] at hSj
            obtain ⟨oj, hoj, hdj, hej⟩ := hget' j d' e' hj
            have hc : conflict ops.toArray o e oj e' = true := by
              simp only [conflict, Bool.or_eq_true, List.any_eq_true]
              exact .inl (.inr ⟨n, hdt, .inr (by simpa using hd')⟩)
            have := hafter j oj e' hij hoj hej hc
            rw [hSj] at this
            cases this
        · intro n hn
          simp only [St.eff, List.mem_append] at hn
          rw [foldS_used]
          rw [foldS_used] at hn
          rcases hn with hn | hn | ⟨j, d, ej, hj, hSj, hnj⟩
          · exact .inr ⟨i, o.dst, e, hget i o e hoi hei, by simp, hn⟩
          · exact .inl hn
          · exact .inr ⟨j, d, ej, hj, by rw [hSj]; simp, hnj⟩
    unfold wpOp
    simp only [List.getElem?_toArray, hoi]
    have hrun : OpW X o (foldS (fun m => decide (m < i)) 0 (zipD ops es) σ) e → o.wp X.P a w (wpAny X.P .any ops.toArray Q fuel (listed.setIfInBounds i true)) Q := fun hw =>
      (hw.congr ⟨hval, hobj, hnew⟩).sound hT hg hG hd hnext
    rcases htx.2 with ⟨hgn, hw⟩ | ⟨j, want, b, hgs, hgv, hor⟩ | ⟨j, want, hgs, hgv, rfl⟩
    · rw [if_pos (by simp [Region.wanted, hgn])]
      exact .inl (hrun hw)
    · have hgv' : gv ops (foldS (fun m => listed.getD m false) 0 (zipD ops es) σ) j = .pv (.bool b) := by
        rw [← hgv]
        unfold gv
        split
        · rename_i oj hoj
          split
          · rename_i d hdj
            refine (hslot d ?_).symm
            simp only [Oper.looksAt, List.mem_append]
            right
            simp [hgs, hoj, hdj]
          · rfl
        · rfl
      have hy := yield_of hG hgv'
      rcases hor with ⟨hbw, hw⟩ | ⟨hbw, rfl⟩
      · rw [if_pos (by simp [Region.wanted, hgs, hy, hbw])]
        exact .inl (hrun hw)
      · rw [if_neg (by simp [Region.wanted, hgs, hy, hbw])]
        exact hnext E _ w (skip_ga hG hd)
    · have hgv' : gv ops (foldS (fun m => listed.getD m false) 0 (zipD ops es) σ) j = .pv (.tuple []) := by
        rw [← hgv]
        unfold gv
        split
        · rename_i oj hoj
          split
          · rename_i d hdj
            refine (hslot d ?_).symm
            simp only [Oper.looksAt, List.mem_append]
            right
            simp [hgs, hoj, hdj]
          · rfl
        · rfl
      have hy := yield_none hG hgv'
      rw [if_neg (by simp [Region.wanted, hgs, hy])]
      exact hnext E _ w (skip_ga hG hd)
end

theorem foldS_append {S : Nat → Bool} : ∀ (a b : List (Option Nat × Eff)) (k : Nat) (σ : St), foldS S k (a ++ b) σ = foldS S (k + a.length) b (foldS S k a σ)
  | [], b, k, σ => rfl
  | p :: a, b, k, σ => by
    simp only [List.cons_append, foldS, List.length_cons]
    rw [foldS_append a b (k + 1)]
    congr 1
    omega
theorem foldS_none {S : Nat → Bool} : ∀ (l : List (Option Nat × Eff)) (k : Nat) (σ : St), (∀ i, k ≤ i → S i = false) → foldS S k l σ = σ
  | [], k, σ, _ => rfl
  | p :: l, k, σ, h => by
    simp only [foldS, h k (Nat.le_refl _)]
    exact foldS_none l (k + 1) σ (fun i hi => h i (by omega))

/-- a drawn region in which a call panics: the operations ahead of it, in the text's order -/
theorem ex_drawP {X : Env1} {σ : St} {id : Nat} {l pre post : List Oper} {op : Oper} {Q : AEx → St → Prop}
    (h : runOps X true l (fun σj tr => ∃ f args objs p, calleeOf (σj.val X.gl) op.op = some (f, args) ∧ AC X.P X.gl f args objs (.panic p) [] ∧ subO objs σj.objs ∧ op.guard = none ∧
      checkDrawP l (tr ++ ⟨.undef, [], [], keysO objs⟩ :: post.map (fun _ => skipE)) pre.length = true ∧ ∀ τ, Q (.panic p) τ) (fun _ _ => False) pre σ [])
    (hl : l = pre ++ op :: post) : AWP X (.region id l.toArray true) σ Q := by
  intro C E a w hC hG
  obtain ⟨es, hlen, ht, f, args, objs, p, hf, hac, hsub, hgd, hck, hq⟩ := runOps_text _ _ _ h
  simp only [List.nil_append] at hck
  have hz : zipD l (es ++ ⟨.undef, [], [], keysO objs⟩ :: post.map (fun _ => skipE)) = zipD pre es ++ (op.dst, ⟨.undef, [], [], keysO objs⟩) :: zipD post (post.map (fun _ => skipE)) := by
    subst hl
    simp only [zipD, List.map_append, List.map_cons]
    rw [List.zip_append (by simpa using hlen.symm)]
    rfl
  have hzl : (zipD pre es).length = pre.length := by simp [zipD, hlen]
  have hj : foldS (fun m => decide (m < pre.length)) 0 (zipD l (es ++ ⟨.undef, [], [], keysO objs⟩ :: post.map (fun _ => skipE))) σ = foldS (fun _ => true) 0 (zipD pre es) σ := by
    rw [hz, foldS_append, hzl, foldS_none _ _ _ (by intro i hi; simp; omega)]
    have key : ∀ (r : List (Option Nat × Eff)) (k : Nat) (s : St), k + r.length ≤ pre.length → foldS (fun m => decide (m < pre.length)) k r s = foldS (fun _ => true) k r s := by
      intro r
      induction r with
      | nil => intro k s _; rfl
      | cons q r ih =>
        intro k s hk
        simp only [List.length_cons] at hk
        have : k < pre.length := by omega
        simp only [foldS, this, decide_true]
        rw [ih (k + 1) _ (by omega)]
    exact key _ 0 σ (by omega)
  refine wp_region_any X.mix ?_
  have hG' : Ga C E σ a { w with drawn := w.drawn + 1 } := hG.drew
  have := draw_panic (X := X) (C := C) (Q := APost C Q) X.ok hC.glob hC.nt (ops := l) (es := es ++ ⟨.undef, [], [], keysO objs⟩ :: post.map (fun _ => skipE)) (σ := σ) (by subst hl; simp [hlen]) (jp := pre.length) (op := op)
    (by subst hl; simp) hgd (f := f) (args := args) (objs := objs) (p := p) (by rw [hj]; exact hf) hac (by rw [hj]; exact hsub) (by rw [← hlen]; simp) (by
      intro i o e hi ho he
      have ho' : pre[i]? = some o := by
        subst hl
        rwa [List.getElem?_append_left hi] at ho
      have he' : es[i]? = some e := by
        rwa [List.getElem?_append_left (by omega)] at he
      have := text_at pre es 0 σ ht i o e ho' he'
      rw [Nat.zero_add] at this
      rw [hz, foldS_append, hzl, foldS_none _ _ _ (by intro k hk; simp; omega)]
      exact this) hck (fun E τ a w v hG hv => ⟨E, τ, .panic p, hG, ⟨v, rfl, hv⟩, hq τ⟩) l.length (Array.replicate l.length false) E a _ (by simp) (by simp [List.count_replicate]) (by
      intro j _
      rw [Array.getD_eq_getD_getElem?, Array.getElem?_replicate]
      split <;> rfl) (by
      intro j hj i _
      rw [Array.getD_eq_getD_getElem?, Array.getElem?_replicate] at hj
      split at hj <;> simp at hj) (by
      have hS : (fun m => (Array.replicate l.length false).getD m false) = fun _ => false := by
        funext m
        rw [Array.getD_eq_getD_getElem?, Array.getElem?_replicate]
        split <;> rfl
      rw [hS, foldS_none _ _ _ (fun _ _ => rfl)]
      exact hG')
  simpa using this
end Go.Lg
/- A nil slice that begins to grow; a variable that is done. -/
namespace Go.Lg
section
variable {C : Ctx} {E : Env} {σ : St} {a : Act} {w : World}

theorem Ga.thaw (h : Ga C E σ a w) {b i n sz ty : Nat} {cs : List V} (hb : getO σ.objs b = some (.box cs)) (hi : cs[i]? = some (.pv .nils)) (hn : n ∉ σ.used) :
    ∃ E', Ga C E' ⟨σ.slots, setO (setO σ.objs n (.arr 0 sz ty [])) b (.box (cs.set i (.arr n 0 0))), n :: σ.used⟩ a w := by
  obtain ⟨E1, h1, hr⟩ := addArr (sz := sz) (ty := ty) h hn
  have hbn : b ≠ n := fun e => hn (e ▸ (h.usedO b _ hb).1)
  have hb1 : getO (setO σ.objs n (.arr 0 sz ty [])) b = some (.box cs) := by rw [getO_setO, if_neg hbn]; exact hb
  refine ⟨E1, ?_⟩
  have := h1.change (E' := E1) b (some (.box (cs.set i (.arr n 0 0)))) (setO (setO σ.objs n (.arr 0 sz ty [])) b (.box (cs.set i (.arr n 0 0)))) (n :: σ.used) none .undef undef (fun m => getO_setO _ _ _ _) (Hle.refl _)
    (fun _ _ => ⟨rfl, rfl, rfl⟩) (fun _ => EExt.refl _ _) (fun _ => ⟨_, hb1⟩) (Nat.le_refl _) ⟨rfl, rfl, rfl⟩ (fun _ _ _ => ⟨rfl, rfl⟩) h1.heap ?_ ?_ (fun _ h => h) (by simp [RepV]) (by simp [V.names]) (by simp)
  · exact this
  · intro o e
    cases e
    obtain ⟨bb, c, T, hg, hc, hl, hrep, h0⟩ := h1.objs b _ hb1
    refine ⟨⟨bb, c, T, hg, hc, by simpa using hl, ?_, h0⟩, (h1.usedO b _ hb1).1, ?_⟩
    · rw [RepVL.iff] at hrep ⊢
      intro j x hx
      rw [List.getElem?_set] at hx
      split at hx
      · rename_i e
        subst e
        obtain ⟨v, hv, hrv⟩ := hrep i _ hi
        have hil : i < cs.length := (List.getElem?_eq_some_iff.1 hi).1
        rw [if_pos hil] at hx
        cases hx
        simp only [RepV, RepP] at hrv
        subst hrv
        exact ⟨_, hv, hr⟩
      · exact hrep j x hx
    · intro m hm
      obtain ⟨x, hx, hm⟩ := mem_namesL.1 (by simpa only [Ob.names] using hm)
      rcases List.mem_or_eq_of_mem_set hx with hx | rfl
      · exact (h1.usedO b _ hb1).2 m (mem_namesL.2 ⟨x, hx, hm⟩)
      · simp only [V.names, List.mem_singleton] at hm
        subst hm
        simp
  · intro o bb e hbb
    exact .inr ⟨hbb, _, hb1⟩

/-- a variable that is done becomes plain data -/
def frbV (n : Nat) (ps : List PV) : V → V
  | .loc m off => if m = n then .pv (.ptr (ps.drop off)) else .loc m off
  | x => x
def frbL (n : Nat) (ps : List PV) : List V → List V
  | [] => []
  | x :: xs => frbV n ps x :: frbL n ps xs
def frbS (n : Nat) (ps : List PV) : List (Nat × V) → List (Nat × V)
  | [] => []
  | (t, x) :: r => (t, frbV n ps x) :: frbS n ps r
def frbOb (n : Nat) (ps : List PV) : Ob → Ob
  | .box cs => .box (frbL n ps cs)
  | o => o
def frbO (n : Nat) (ps : List PV) : List (Nat × Ob) → List (Nat × Ob)
  | [] => []
  | (k, o) :: r => if k = n then frbO n ps r else (k, frbOb n ps o) :: frbO n ps r
def St.frb (σ : St) (n : Nat) (ps : List PV) : St := ⟨frbS n ps σ.slots, frbO n ps σ.objs, σ.used⟩

theorem frbL_len (n : Nat) (ps : List PV) (cs : List V) : (frbL n ps cs).length = cs.length := by
  induction cs with
  | nil => rfl
  | cons c cs ih => simp [frbL, ih]
theorem frbS_get (n : Nat) (ps : List PV) (l : List (Nat × V)) (t : Nat) : getS (frbS n ps l) t = frbV n ps (getS l t) := by
  induction l with
  | nil => rfl
  | cons p r ih =>
    obtain ⟨k, x⟩ := p
    simp only [frbS, getS, ih]
    split <;> rfl
theorem frbO_get (n : Nat) (ps : List PV) (l : List (Nat × Ob)) (m : Nat) : getO (frbO n ps l) m = if m = n then none else (getO l m).map (frbOb n ps) := by
  induction l with
  | nil => simp [frbO, getO]
  | cons p r ih =>
    obtain ⟨k, x⟩ := p
    simp only [frbO, getO]
    by_cases e : k = n
    · subst e
      simp only [if_true, ih]
      by_cases e1 : m = k
      · simp [e1]
      · have : ¬ k = m := fun h => e1 h.symm
        simp [e1, this]
    · simp only [e, if_false, getO, ih]
      by_cases e1 : k = m
      · subst e1; simp [e]
      · simp [e1]
theorem frbV_names (n : Nat) (ps : List PV) (x : V) : ∀ m ∈ (frbV n ps x).names, m ∈ x.names := by
  intro m hm
  unfold frbV at hm
  split at hm
  · split at hm
    · simp [V.names] at hm
    · exact hm
  · exact hm
theorem frbL_names (n : Nat) (ps : List PV) (cs : List V) : ∀ m ∈ namesL (frbL n ps cs), m ∈ namesL cs := by
  induction cs with
  | nil => intro m hm; exact hm
  | cons c cs ih =>
    intro m hm
    simp only [frbL, namesL, List.mem_append] at hm ⊢
    rcases hm with hm | hm
    · exact .inl (frbV_names n ps c m hm)
    · exact .inr (ih m hm)

theorem Ga.frb (h : Ga C E σ a w) {n : Nat} {ps : List PV} (ho : getO σ.objs n = some (.box (pvL ps))) : ∃ E', Ga C E' (σ.frb n ps) a w := by
  obtain ⟨b, cur, T, hgn, hcur, hcs, hr, hfree⟩ := h.objs n _ ho
  let H' : Hp := fun b' => if b' = b then cur.toList else E.H b'
  have hHle : Hle E.H H' := by
    intro b'
    by_cases e : b' = b
    · subst e; rw [hfree]; exact List.nil_prefix
    · simp [H', e]
  have hheap : HeapOK { E with H := H' } w := by
    intro b' hb'
    by_cases e : b' = b
    · subst e
      exact ⟨cur, T, (0, 0), hcur, by simp [H', Msk.refl], .inl rfl⟩
    · have hb'' : E.H b' ≠ [] := by simpa [H', e] using hb'
      obtain ⟨c, T, fr, hc, hp⟩ := h.heap b' hb''
      exact ⟨c, T, fr, hc, by simpa [H', e] using hp.1, by simpa [H', e] using hp.2⟩
  have hdata : RepL H' ps (H' b) := by
    have : H' b = cur.toList := by simp [H']
    rw [this]
    exact RepL.mono hHle ps _ _ List.prefix_rfl (RepVL.toPv (unL_pvL ps) hr)
  have hsame : ∀ b', b' ≠ b → H' b' = E.H b' := by intro b' hne; simp [H', hne]
  have hE : ∀ m, EExt E { E with H := H' } m := fun m => EExt.of_eq rfl rfl rfl
  have hc := h.change (E' := { E with H := H' }) n none (delO σ.objs n) σ.used none .undef undef (fun m => getO_delO _ _ _) hHle (fun _ _ => ⟨rfl, rfl, rfl⟩) (fun _ => hE n) (fun _ => ⟨_, ho⟩) (Nat.le_refl _) ⟨rfl, rfl, rfl⟩
    (fun b' _ hne => ⟨rfl, hsame b' (fun e => hne _ ho (by rw [e, hgn]; rfl))⟩) hheap (fun o e => by cases e) (fun o b e => by cases e) (fun _ h => h) (by simp [RepV]) (by simp [V.names]) (by simp)
  have hv1 : ∀ (x : V) (v : Value), RepV { E with H := H' } x v → RepV { E with H := H' } (frbV n ps x) v := by
    intro x v hx
    unfold frbV
    split
    · rename_i m off
      split
      · rename_i e
        subst e
        simp only [RepV] at hx
        obtain ⟨b', hg', hv⟩ := hx
        rw [hgn] at hg'
        cases hg'
        simp only [RepV, RepP]
        exact ⟨b, off, hv, RepL.drop off hdata⟩
      · exact hx
    · exact hx
  have hvL : ∀ (cs : List V) (vs : List Value), RepVL { E with H := H' } cs vs → RepVL { E with H := H' } (frbL n ps cs) vs := by
    intro cs
    induction cs with
    | nil => intro vs _; simp [frbL, RepVL]
    | cons c cs ih =>
      intro vs hr
      cases vs with
      | nil => simp [RepVL] at hr
      | cons v vs =>
        simp only [RepVL] at hr
        simp only [frbL, RepVL]
        exact ⟨hv1 c v hr.1, ih vs hr.2⟩
  refine ⟨{ E with H := H' }, ?_, hc.size, hc.defers, hc.heap, ?_, ?_, ?_, ?_, hc.usedG, hc.grown, hc.rest, hc.same, hc.hle, ?_, hc.ext, fun k hk => ⟨(hc.keep k hk).1, ?_, (hc.keep k hk).2.2⟩⟩
  · intro t
    simp only [St.frb, frbS_get]
    exact hv1 _ _ (hc.slots t)
  · intro m o hm
    simp only [St.frb, frbO_get] at hm
    split at hm
    · cases hm
    · rename_i hne
      cases hq : getO σ.objs m with
      | none => rw [hq] at hm; cases hm
      | some q =>
        rw [hq] at hm
        simp only [Option.map_some, Option.some.injEq] at hm
        subst hm
        have hq' : getO (delO σ.objs n) m = some q := by rw [getO_delO, if_neg hne, hq]
        have hok := hc.objs m q hq'
        cases q with
        | box cs =>
          obtain ⟨b, c, T, h1, h2, h3, h4, h5⟩ := hok
          exact ⟨b, c, T, h1, h2, by rw [h3, frbL_len], hvL cs _ h4, h5⟩
        | arr v s t es' => exact hok
        | cache D F => exact hok
  · intro m m' o o' hm hm' hne b hb
    simp only [St.frb, frbO_get] at hm hm'
    split at hm
    · cases hm
    · split at hm'
      · cases hm'
      · cases hq : getO σ.objs m with
        | none => rw [hq] at hm; cases hm
        | some q =>
          cases hq' : getO σ.objs m' with
          | none => rw [hq'] at hm'; cases hm'
          | some q' => exact h.apart m m' q q' hq hq' hne b hb
  · intro t m hm
    simp only [St.frb, frbS_get] at hm
    exact h.usedS t m (frbV_names n ps _ m hm)
  · intro m o hm
    simp only [St.frb, frbO_get] at hm
    split at hm
    · cases hm
    · cases hq : getO σ.objs m with
      | none => rw [hq] at hm; cases hm
      | some q =>
        rw [hq] at hm
        simp only [Option.map_some, Option.some.injEq] at hm
        subst hm
        refine ⟨(h.usedO m q hq).1, fun k hk => (h.usedO m q hq).2 k ?_⟩
        cases q with
        | box cs => exact frbL_names n ps cs k hk
        | arr v s t es' => exact hk
        | cache D F => exact hk
  · intro m o b hm hb hlt
    simp only [St.frb, frbO_get] at hm
    split at hm
    · cases hm
    · cases hq : getO σ.objs m with
      | none => rw [hq] at hm; cases hm
      | some q => exact h.own m q b hq hb hlt
  · simp only [St.frb, frbO_get]
    have := (h.keep k hk).2.1
    split
    · rfl
    · rw [this]; rfl
end
theorem ex_thaw {X : Env1} {c : Code} {σ σ' : St} {Q : AEx → St → Prop} (b i n sz ty : Nat) {cs : List V} (hb : getO σ.objs b = some (.box cs)) (hi : cs[i]? = some (.pv .nils)) (hn : n ∉ σ.used)
    (hσ : (⟨σ.slots, setO (setO σ.objs n (.arr 0 sz ty [])) b (.box (cs.set i (.arr n 0 0))), n :: σ.used⟩ : St) = σ') (h : AWP X c σ' Q) : AWP X c σ Q := by
  intro C E a w hC hG
  obtain ⟨E', hG'⟩ := hG.thaw (sz := sz) (ty := ty) hb hi hn
  rw [hσ] at hG'
  exact h C E' a w hC hG'
theorem ex_frb {X : Env1} {c : Code} {σ σ' : St} {Q : AEx → St → Prop} (n : Nat) {ps : List PV} (ho : getO σ.objs n = some (.box (pvL ps))) (hσ : σ.frb n ps = σ') (h : AWP X c σ' Q) : AWP X c σ Q := by
  intro C E a w hC hG
  obtain ⟨E', hG'⟩ := hG.frb ho
  rw [hσ] at hG'
  exact h C E' a w hC hG'
end Go.Lg
/- Functions that defer a closure which recovers. -/
namespace Go.Lg

theorem Ga.entry {X : Env1} {fn : Func} (hnt : fn.ntmps = X.nt) {args : List V} {objs : List (Nat × Ob)} {ms : List Nat} (hal : args.length ≤ X.nt) (hms2 : ∀ n ∈ ms, n ∉ keysO objs)
    (hna : subL (namesL args ++ namesOb objs) (keysO objs ++ ms)) {E : Env} {w : World} {vs : List Value} (hB : Base X.gl E w objs) (hl : vs.length = args.length) (hr : RepVL E args vs) :
    Ga ⟨E, w, objs, ms, X.nt, []⟩ E ⟨zipArgs 0 args, objs, keysO objs ++ ms⟩ { tmps := vs.toArray ++ Array.replicate (fn.ntmps - vs.toArray.size) undef, defers := [] } w := by
  have hna := subL_spec hna
  have hnone : ∀ {l : List (Nat × Ob)} {n : Nat}, n ∉ keysO l → getO l n = none := by
    intro l n hn
    cases e : getO l n with
    | none => rfl
    | some o => exact absurd (getO_some_mem e) hn
  refine ⟨?_, ?_, ⟨rfl, by simp [namesD]⟩, hB.heap, hB.obs, hB.apart, ?_, ?_, fun n o hn => List.mem_append.2 (.inl (getO_some_mem hn)), Nat.le_refl _, ⟨rfl, rfl, rfl⟩, fun _ _ _ => ⟨rfl, rfl⟩, Hle.refl _, fun n o b hn hb _ => ⟨n, o, hn, hb⟩, fun n o _ => EExt.refl _ _,
    fun n hn => ⟨List.mem_append.2 (.inr hn), hnone (hms2 n hn), rfl, rfl, rfl⟩⟩
  · intro t
    rw [zipArgs_get]
    simp only [Nat.zero_le, if_true, Nat.sub_zero]
    by_cases ht : t < args.length
    · have hra := RepVL.iff.1 hr t args[t] (List.getElem?_eq_getElem ht)
      obtain ⟨v, hv, hrv⟩ := hra
      have h1 : args.getD t .undef = args[t] := by simp [List.getD, List.getElem?_eq_getElem ht]
      rw [h1]
      have h2 : (vs.toArray ++ Array.replicate (fn.ntmps - vs.toArray.size) undef).getD t undef = v := by
        rw [Array.getD_eq_getD_getElem?, Array.getElem?_append_left (by simp; omega)]
        simp [hv]
      rw [h2]
      exact hrv
    · have h1 : args.getD t .undef = .undef := by simp [List.getD, List.getElem?_eq_none (by omega : args.length ≤ t)]
      rw [h1]
      simp [RepV]
  · simp; omega
  · intro t n hn
    refine hna n ?_
    rw [List.mem_append]
    left
    have : n ∈ namesSl (zipArgs 0 args) := namesSl_get hn
    have key : ∀ (xs : List V) (k : Nat), n ∈ namesSl (zipArgs k xs) → n ∈ namesL xs := by
      intro xs
      induction xs with
      | nil => intro k h; simp [zipArgs, namesSl] at h
      | cons x xs ih =>
        intro k h
        simp only [zipArgs, namesSl, List.mem_append] at h
        simp only [namesL, List.mem_append]
        rcases h with h | h
        · exact .inl h
        · exact .inr (ih (k + 1) h)
    exact key args 0 this
  · intro n o hn
    exact ⟨List.mem_append.2 (.inl (getO_some_mem hn)), fun m hm => hna m (by simp [(namesOb_get hn).2 m hm])⟩

theorem Ga.done {C : Ctx} {E' : Env} {σ' : St} {a' : Act} {w' : World} (hG' : Ga C E' σ' a' w') {objs' : List (Nat × Ob)}
    (hno : ∀ m o, getO objs' m = some o → ∀ n ∈ o.names, n ∈ (keysO C.given ++ C.ms) ++ keysO objs') (hsub : subO objs' σ'.objs) :
    ∃ E2 : Env, Done C.E0 C.w0 C.given E2 w' objs' ∧ E2.H = E'.H ∧ ∀ n ∈ (keysO C.given ++ C.ms) ++ keysO objs', EExt E' E2 n := by
  let E2 : Env := ⟨E'.H, fun n => if n ∈ keysO C.given ++ keysO objs' then E'.g n else C.E0.g n, fun n => if n ∈ keysO C.given ++ keysO objs' then E'.ver n else C.E0.ver n, fun n => if n ∈ keysO C.given ++ keysO objs' then E'.sz n else C.E0.sz n⟩
  have hE2 : ∀ n ∈ keysO C.given ++ keysO objs', E2.g n = E'.g n ∧ E2.ver n = E'.ver n ∧ E2.sz n = E'.sz n := by
    intro n hn
    have hn' : n ∈ keysO C.given ∨ n ∈ keysO objs' := List.mem_append.1 hn
    simp [E2, hn']
  have hEE0 : ∀ n ∈ keysO C.given ++ keysO objs', EExt E' E2 n := fun n hn => EExt.of_eq (hE2 n hn).1 (hE2 n hn).2.1 (hE2 n hn).2.2
  have hEE : ∀ n ∈ (keysO C.given ++ C.ms) ++ keysO objs', EExt E' E2 n := by
    intro n hn
    by_cases hm : n ∈ keysO C.given ++ keysO objs'
    · exact hEE0 n hm
    · have hn' : n ∈ C.ms := by
        rcases List.mem_append.1 hn with hn | hn
        · rcases List.mem_append.1 hn with hn | hn
          · exact absurd (List.mem_append.2 (.inl hn)) hm
          · exact hn
        · exact absurd (List.mem_append.2 (.inr hn)) hm
      have hm' : ¬ (n ∈ keysO C.given ∨ n ∈ keysO objs') := fun h => hm (List.mem_append.2 h)
      obtain ⟨_, _, k3, k4, k5⟩ := hG'.keep n hn'
      exact EExt.of_eq (by simp [E2, hm']; exact k3.symm) (by simp [E2, hm']; exact k4.symm) (by simp [E2, hm']; exact k5.symm)
  have hsub := subO_spec hsub
  have hk' : ∀ n o, getO objs' n = some o → n ∈ keysO C.given ++ keysO objs' := fun n o hn => List.mem_append.2 (.inr (getO_some_mem hn))
  refine ⟨E2, ⟨fun b hb => hG'.heap b hb, ?_, ?_, hG'.hle, hG'.grown, hG'.rest, ?_, ?_, ?_, ?_⟩, rfl, hEE⟩
  · intro n o hn
    have hm := hk' n o hn
    exact (hG'.objs n o (hsub n o hn)).mono (Hle.refl _) (hE2 n hm).1 (hE2 n hm).2.1 (hE2 n hm).2.2 (fun m hm' => hEE m (hno n o hn m hm')) (fun b _ => ⟨rfl, rfl⟩)
  · intro n m o o' hn hm hne b hb
    rw [(hE2 n (hk' n o hn)).1] at hb
    rw [(hE2 m (hk' m o' hm)).1]
    exact hG'.apart n m o o' (hsub n o hn) (hsub m o' hm) hne b hb
  · intro b hb hnb
    exact hG'.same b hb (by rintro ⟨n, o, hn, hbn⟩; exact hnb n o hn hbn)
  · intro n o b hn hb
    rw [(hE2 n (hk' n o hn)).1] at hb
    by_cases hlt : b < C.w0.heap.size
    · obtain ⟨m, o', hm, hbm⟩ := hG'.own n o b (hsub n o hn) hb hlt
      exact .inr ⟨m, o', hm, hbm⟩
    · exact .inl (by omega)
  · intro n o hn
    have hm : n ∈ keysO C.given ++ keysO objs' := List.mem_append.2 (.inl (getO_some_mem hn))
    exact (hG'.ext n o hn).trans (hEE0 n hm)
  · intro n h1 h2
    have hn : ¬ (n ∈ keysO C.given ∨ n ∈ keysO objs') := by
      rintro (hn | hn)
      · obtain ⟨o, ho⟩ := getO_of_mem hn; rw [ho] at h1; cases h1
      · obtain ⟨o, ho⟩ := getO_of_mem hn; rw [ho] at h2; cases h2
    simp [E2, hn]

/-- what a closure that recovers does, deferred by a function that panics -/
def Catches (P : Program) (gl : Nat → Option (List PV)) (fc : Nat) (caps : List V) (objs : List (Nat × Ob)) (p : PV) (objs' : List (Nat × Ob)) : Prop :=
  ∀ (E : Env) (w : World) (vs : List Value) (v : Value), Base gl E w objs → vs.length = caps.length → RepVL E caps vs → RepP E.H p v →
    CallsD P fc vs.toArray (.panicking [{ v, recovered := false }]) w fun e u' w' => (∃ r, e = .returned r) ∧ u' = .panicking [{ v, recovered := true }] ∧ ∃ E', Done E w objs E' w' objs'
/-- deferred by a function that returns -/
def Idles (P : Program) (fc : Nat) (n : Nat) : Prop :=
  ∀ (w : World) (vs : List Value), vs.length = n → CallsD P fc vs.toArray .returning w fun e u' w' => (∃ r, e = .returned r) ∧ u' = .returning ∧ w' = w

theorem catches_of {X : Env1} {fc : Nat} {fn : Func} {c : Code} {id tr : Nat} {o : Oper} (hf : X.P.funcs[fc]? = some fn) (hb : fn.body = some (.seq (.region id #[o] false) c)) (hnt : fn.ntmps = X.nt)
    (hrec : ∀ ρ w, (execOp ρ o).run X.P w = .ok .recover w) (hdst : o.dst = some tr) (hgd : o.guard = none) (htr : tr < X.nt) {caps : List V} {objs : List (Nat × Ob)} {p : PV} {x : V} {objs' : List (Nat × Ob)}
    (hgiven : X.given = keysO objs) (hal : caps.length ≤ X.nt) (hna : subL (namesL caps ++ namesOb objs) (keysO objs)) (hno : subL (namesOb objs') (keysO objs ++ keysO objs'))
    (h : AWP X c ⟨(tr, .pv p) :: zipArgs 0 caps, objs, keysO objs⟩ (endQ X fn.results.toList (.ret x) objs')) : Catches X.P X.gl fc caps objs p objs' := by
  intro E w vs v hB hl hr hp
  have hno := subL_spec hno
  refine callsD_of_wpS hf hb fun c₀ cs hu => ?_
  apply wpS_seq
  apply wpS_region
  have hG := Ga.entry (X := X) (fn := fn) (ms := []) hnt hal (by simp) (by simpa using hna) hB hl hr
  simp only [List.append_nil] at hG
  have hG1 := hG.pure E.H (some tr) (.pv p) v (Hle.refl _) (Nat.le_refl _) ⟨rfl, rfl, rfl⟩ (fun _ _ => ⟨rfl, rfl⟩) hG.heap (by simpa [RepV] using hp) (by simp [V.names]) (by intro d hd; cases hd; exact htr)
  have hC : COK X ⟨E, w, objs, [], X.nt, []⟩ := ⟨hB.glob, rfl, fun n o hn => by rw [hgiven]; exact getO_some_mem hn, by simp, by simp [namesD]⟩
  have hwp := h _ _ _ _ hC hG1
  have hr1 : List.range (#[o] : Array Oper).size = [0] := rfl
  rw [hr1]
  simp only [wpOpsS, List.getElem?_toArray, List.getElem?_cons_zero, Region.wanted, hgd, if_true, hrec, recoverD, hu, hdst, Exit.thenS]
  refine wpS_of_wp (wp_mono hwp ?_)
  rintro e a' w' ⟨E', σ', ae, hG', hrel, hq⟩
  have fin : (∃ y, resV X σ' fn.results.toList = some y) → subO objs' σ'.objs → a'.defers = [] ∧ ∃ u', ({ c₀ with mode := .panicking [{ v, recovered := true }] } :: cs : List Frame) = { c₀ with mode := u' } :: cs ∧ ∃ r, (results fn a'.tmps).run X.P w' = .ok r w' ∧
      ((∃ r', Ending.returned r = .returned r') ∧ u' = .panicking [{ v, recovered := true }] ∧ ∃ E', Done E w objs E' w' objs') := by
    rintro ⟨y, hy⟩ hsub
    obtain ⟨r, hrr, _⟩ := res_run X.ok hG' hy
    obtain ⟨E2, hD, _⟩ := hG'.done (objs' := objs') (by
      intro m o hm n hn
      have := hno n ((namesOb_get hm).2 n hn)
      simpa using this) hsub
    exact ⟨hG'.defers.1, _, rfl, r, hrr, ⟨_, rfl⟩, rfl, E2, hD⟩
  cases ae with
  | normal => cases hrel; exact fin ⟨_, hq.1⟩ hq.2
  | ret => cases hrel; exact fin ⟨_, hq.1⟩ hq.2
  | exit i => exact hq.elim
  | panic q => exact hq.1.elim

theorem Ga.defer {C : Ctx} {E : Env} {σ : St} {a : Act} {w : World} (h : Ga C E σ a w) {f : Nat} {caps : List V} {cv : List Value} (hl : cv.length = caps.length) (hr : RepVL E caps cv) (hn : ∀ n ∈ namesL caps, n ∈ σ.used) :
    Ga { C with defs := (f, caps) :: C.defs } E σ { a with defers := { target := .fn (.func f) cv.toArray, args := #[] } :: a.defers } w :=
  ⟨h.slots, h.size, ⟨⟨cv, a.defers, rfl, hl, hr, h.defers.1⟩, fun n hm => by
    simp only [namesD, List.mem_append] at hm
    rcases hm with hm | hm
    · exact hn n hm
    · exact h.defers.2 n hm⟩, h.heap, h.objs, h.apart, h.usedS, h.usedO, h.usedG, h.grown, h.rest, h.same, h.hle, h.own, h.ext, h.keep⟩

/-- how the body of a function with a deferred closure may end: it returns x with these objects, or panics so that the closure leaves those -/
def rescueQ (X : Env1) (rs : List ResultVar) (fc : Nat) (caps : List V) (x : V) (objs' : List (Nat × Ob)) : AEx → St → Prop
  | .normal, σ => resV X σ rs = some x ∧ subO objs' σ.objs
  | .ret, σ => resV X σ rs = some x ∧ subO objs' σ.objs
  | .panic p, σ => ∃ co co' : List (Nat × Ob), Catches X.P X.gl fc caps co p co' ∧ subO co σ.objs ∧ keysO co' = keysO co ∧ namesOb co' = keysO co' ∧
      resV X (σ.eff none (callEff .undef co co')) rs = some x ∧ subO objs' (σ.eff none (callEff .undef co co')).objs
  | .exit _, _ => False

def Env1.more (X : Env1) (l : List Nat) : Env1 := { X with given := X.given ++ l }

theorem AC.of_rescue {X : Env1} {f : Nat} {fn : Func} {c0 c1 : Code} {id tf fc : Nat} {o1 o2 : Oper} {co : Array Operand} (hf : X.P.funcs[f]? = some fn) (hb : fn.body = some (.seq c0 (.seq (.region id #[o1, o2] false) c1))) (hname : (fn.name == "runtime.NumGoroutine") = false) (hnt : fn.ntmps = X.nt)
    (hdir : Direct X.P fc)
    (ho1 : o1.op = .makeFunc (.func fc) #[] co) (hd1 : o1.dst = some tf) (hg1 : o1.guard = none) (htf : tf < X.nt)
    (ho2 : o2.op = .defer { callee := .value (.tmp tf), args := #[], argTypes := #[] }) (hd2 : o2.dst = none) (hg2 : o2.guard = none)
    {args : List V} {objs : List (Nat × Ob)} {x : V} {objs' : List (Nat × Ob)} {ms : List Nat} (hgiven : X.given = keysO objs ++ ms) (hal : args.length ≤ X.nt)
    (hms1 : subL ms (mentL args objs)) (hms2 : ∀ n ∈ ms, n ∉ keysO objs)
    (hna : subL (namesL args ++ namesOb objs) (keysO objs ++ ms)) (hno : subL (x.names ++ namesOb objs') ((keysO objs ++ ms) ++ keysO objs'))
    {σ1 : St} (h0 : AWP X c0 ⟨zipArgs 0 args, objs, keysO objs ++ ms⟩ (fun e σ => e = .normal ∧ σ = σ1)) {caps : List V} (hcaps : co.toList.map (σ1.val X.gl) = caps) (hid : Idles X.P fc caps.length)
    (h1 : AWP (X.more (namesL caps)) c1 ⟨(tf, .fn fc caps) :: σ1.slots, σ1.objs, σ1.used⟩ (rescueQ X fn.results.toList fc caps x objs')) : AC X.P X.gl f args objs (.ret x) objs' := by
  have hno := subL_spec hno
  have hms1 := subL_spec hms1
  have hout : ∀ n, n ∈ (keysO objs ++ ms) ++ keysO objs' → n ∈ keysO objs ∨ n ∈ keysO objs' ∨ n ∈ mentL args objs := by
    intro n hn
    rcases List.mem_append.1 hn with hn | hn
    · rcases List.mem_append.1 hn with hn | hn
      · exact .inl hn
      · exact .inr (.inr (hms1 n hn))
    · exact .inr (.inl hn)
  refine ⟨⟨fn, hf, hname, by rw [hb]; rfl⟩, fun n hn => hout n (hno n (List.mem_append.2 (.inl hn))), fun m o hm n hn => hout n (hno n (List.mem_append.2 (.inr ((namesOb_get hm).2 n hn)))), ?_⟩
  intro E w vs hB hl hr
  refine calls_of_wp_defers hf hb ?_
  let C : Ctx := ⟨E, w, objs, ms, X.nt, []⟩
  have hC : COK X C := ⟨hB.glob, rfl, fun n o hn => by rw [hgiven]; exact List.mem_append.2 (.inl (getO_some_mem hn)), fun n hn => by rw [hgiven]; exact List.mem_append.2 (.inr hn), by simp [C, namesD]⟩
  have hG := Ga.entry (X := X) (fn := fn) hnt hal hms2 hna hB hl hr
  refine wp_seq ?_
  refine wp_mono (h0 C E _ w hC hG) ?_
  rintro e a1 w1 ⟨E1, σ', ae, hG1, hrel, rfl, rfl⟩
  cases hrel
  show Code.wp _ _ _ _ _
  refine wp_seq ?_
  refine wp_region_list ?_
  -- the closure
  obtain ⟨v, w2, E2, hres, hG2, _⟩ := stepOp_sound (P := X.P) (T := X.T) (note := .none) (gl := X.gl) (o := o1) (r := R.of (.fn fc caps)) X.ok hC.glob hG1 (by intro d hd; rw [hd1] at hd; cases hd; exact htf) (by rw [ho1]; simp only [stepOp]; simp [hcaps]) trivial (by intro n y hw; cases hw)
  unfold wpList
  rw [if_pos (by simp [Region.wanted, hg1])]
  left
  refine hres.wp ?_
  have hslots : σ'.app o1.dst (R.of (.fn fc caps)) = ⟨(tf, .fn fc caps) :: σ'.slots, σ'.objs, σ'.used⟩ := by rw [hd1]; rfl
  rw [hslots] at hG2
  unfold wpList
  rw [if_pos (by simp [Region.wanted, hg2])]
  left
  have hsl := hG2.slots tf
  simp only [getS, if_true, RepV] at hsl
  obtain ⟨cv, hcv, hcl, hcr⟩ := hsl
  have hun : ∀ n ∈ namesL caps, n ∈ σ'.used := by
    intro n hn
    have := hG2.usedS tf n
    simp only [getS, if_true, V.names] at this
    exact this hn
  have hrun2 : (execOp (a1.put o1.dst v).eval o2).run X.P w2 = .ok (.defer { target := .fn (.func fc) cv.toArray, args := #[] }) w2 := by
    simp [execOp, ho2, resolve, Act.eval, hcv, Deferred.ofValue]
  unfold Oper.wp
  rw [hrun2, Oper.upon_defer]
  simp only [wpList]
  have hG3 := hG2.defer (f := fc) hcl hcr hun
  have hput : ({ a1.put o1.dst v with defers := { target := .fn (.func fc) cv.toArray, args := #[] } :: (a1.put o1.dst v).defers } : Act).put o2.dst undef = { a1.put o1.dst v with defers := { target := .fn (.func fc) cv.toArray, args := #[] } :: (a1.put o1.dst v).defers } := by rw [hd2]; rfl
  rw [hput]
  show Code.wp _ _ _ _ _
  have hC' : COK (X.more (namesL caps)) { C with defs := (fc, caps) :: C.defs } :=
    ⟨hC.glob, hC.nt, fun n o hn => List.mem_append.2 (.inl (hC.given n o hn)), fun n hn => List.mem_append.2 (.inl (hC.ms n hn)), fun n hn => by
      refine List.mem_append.2 (.inr ?_)
      simpa [C, namesD] using hn⟩
  refine wp_mono (h1 _ _ _ _ hC' hG3) ?_
  rintro e a3 w3 ⟨E3, σ3, ae, hG4, hrel, hq⟩
  obtain ⟨cv3, rest, hdefs, hcl3, hcr3, hrest⟩ := hG4.defers.1
  cases hrest
  -- the results and the objects at the end
  have fin : ∀ (E4 : Env) (σ4 : St) (a4 : Act) (w4 : World), a4.tmps = a3.tmps → Ga { C with defs := (fc, caps) :: C.defs } E4 σ4 a4 w4 → resV X σ4 fn.results.toList = some x → subO objs' σ4.objs →
      ∃ v, (results fn a3.tmps).run X.P w4 = .ok v w4 ∧ ∃ E', Done E w objs E' w4 objs' ∧ OutRel E' (.ret x) (.returned v) := by
    intro E4 σ4 a4 w4 ht hG5 hres hsub
    obtain ⟨v, hv, hrv⟩ := res_run X.ok hG5 hres
    obtain ⟨E2, hD, hH, hEE⟩ := hG5.done (objs' := objs') (by intro m o hm n hn; exact hno n (List.mem_append.2 (.inr ((namesOb_get hm).2 n hn)))) hsub
    refine ⟨v, by rw [← ht]; exact hv, E2, hD, v, rfl, ?_⟩
    exact RepV.mono (E := E4) (E' := E2) (by rw [hH]; exact Hle.refl _) x v (fun n hn => hEE n (hno n (List.mem_append.2 (.inl hn)))) hrv
  have hinv : ∀ w, (invoke (.fn (.func fc) cv3.toArray) #[]).run X.P w = .ok (.enter fc cv3.toArray) w := by
    intro w
    obtain ⟨fnc, hfn, hnm, hbody⟩ := hdir
    have hb : ¬ fnc.body = none := by intro e; rw [e] at hbody; cases hbody
    have hname' : ¬ fnc.name = "runtime.NumGoroutine" := by simpa using hnm
    simp [invoke, callFunc, hfn, hname', hb]
  have hret : resV X σ3 fn.results.toList = some x → subO objs' σ3.objs → Leaves X.P fn a3.tmps (fun e w' => ∃ E', Done E w objs E' w' objs' ∧ OutRel E' (.ret x) e) a3.defers .returning w3 := by
    intro h2 h3
    rw [hdefs]
    refine leaves_cons (f := fc) (args := cv3.toArray) (by simp) (hinv w3) ?_
    refine (hid w3 cv3 hcl3).mono ?_
    rintro e u' w' ⟨⟨r, rfl⟩, rfl, rfl⟩
    simp only [settle, Leaves]
    exact fin E3 σ3 a3 w' rfl hG4 h2 h3
  cases ae with
  | normal => cases hrel; exact hret hq.1 hq.2
  | ret => cases hrel; exact hret hq.1 hq.2
  | exit i => exact hq.elim
  | panic p =>
    obtain ⟨v, rfl, hv⟩ := hrel
    obtain ⟨cobj, cobj', hcatch, hsub, hkeys, hnames, hres, hsub'⟩ := hq
    have hs := subO_spec hsub
    show Leaves _ _ _ _ _ _ _
    rw [hdefs]
    refine leaves_cons (f := fc) (args := cv3.toArray) (by simp) (hinv w3) ?_
    have hbase : Base X.gl E3 w3 cobj := ⟨hG4.heap, hC.glob.mono hG4.hle, fun n o hn => hG4.objs n o (hs n o hn), fun n m o o' hn hm => hG4.apart n m o o' (hs n o hn) (hs m o' hm)⟩
    refine (hcatch E3 w3 cv3 v hbase hcl3 hcr3 hv).mono ?_
    rintro e u' w' ⟨⟨r, rfl⟩, rfl, E5, hD⟩
    have hG5 := hG4.called (dst := none) (x := .undef) (v := undef) (ment := []) hD hs (by intro n hn; rw [hkeys] at hn; exact .inl hn) (by simp) (by
      intro m o hm n hn
      have := (namesOb_get hm).2 n hn
      rw [hnames] at this
      exact .inr (.inl this)) (by simp [RepV]) (by simp [V.names]) (by simp)
    simp only [settle, List.dropWhile, Leaves]
    exact fin E5 _ _ w' rfl hG5 hres hsub'
end Go.Lg
/- Names do not matter: a contract under other names. -/
namespace Go.Lg
mutual
def V.ren (ρ : Nat → Nat) : V → V
  | .undef => .undef
  | .pv p => .pv p
  | .loc n off => .loc (ρ n) off
  | .eloc n ver i off => .eloc (ρ n) ver i off
  | .arr n ver len => .arr (ρ n) ver len
  | .map n => .map (ρ n)
  | .vsl es => .vsl (renE ρ es)
  | .fsl es => .fsl es
  | .fn f cs => .fn f (renL ρ cs)
  | .agg cs => .agg (renL ρ cs)
  | .tuple cs => .tuple (renL ρ cs)
def renL (ρ : Nat → Nat) : List V → List V
  | [] => []
  | c :: cs => c.ren ρ :: renL ρ cs
def renE (ρ : Nat → Nat) : List (List V) → List (List V)
  | [] => []
  | e :: es => renL ρ e :: renE ρ es
end
theorem renL_eq (ρ : Nat → Nat) (l : List V) : renL ρ l = l.map (V.ren ρ) := by
  induction l with
  | nil => rfl
  | cons c l ih => simp [renL, ih]
theorem renE_eq (ρ : Nat → Nat) (l : List (List V)) : renE ρ l = l.map (renL ρ) := by
  induction l with
  | nil => rfl
  | cons c l ih => simp [renE, ih]
theorem renL_len (ρ : Nat → Nat) (l : List V) : (renL ρ l).length = l.length := by simp [renL_eq]
theorem renE_len (ρ : Nat → Nat) (l : List (List V)) : (renE ρ l).length = l.length := by simp [renE_eq]
def Ob.ren (ρ : Nat → Nat) : Ob → Ob
  | .box cs => .box (renL ρ cs)
  | .arr ver sz ty es => .arr ver sz ty (renE ρ es)
  | .cache D F => .cache D F
def renO (ρ : Nat → Nat) : List (Nat × Ob) → List (Nat × Ob)
  | [] => []
  | (n, o) :: r => (ρ n, o.ren ρ) :: renO ρ r
def Out.ren (ρ : Nat → Nat) : Out → Out
  | .ret x => .ret (x.ren ρ)
  | .panic p => .panic p
def Env.comp (E : Env) (ρ : Nat → Nat) : Env := ⟨E.H, fun n => E.g (ρ n), fun n => E.ver (ρ n), fun n => E.sz (ρ n)⟩
mutual
theorem RepV.ren {E : Env} {ρ : Nat → Nat} : ∀ (x : V) (v : Value), RepV E (x.ren ρ) v ↔ RepV (E.comp ρ) x v
  | .undef, _ => by simp [V.ren, RepV]
  | .pv p, v => by simp [V.ren, RepV, Env.comp]
  | .loc n off, v => by simp [V.ren, RepV, Env.comp]
  | .eloc n ver i off, v => by simp [V.ren, RepV, Env.comp]
  | .arr n ver len, v => by simp [V.ren, RepV, Env.comp]
  | .map n, v => by simp [V.ren, RepV, Env.comp]
  | .vsl es, v => by
    simp only [V.ren, RepV, renE_len]
    have h : ∀ vs, RepVE E (renE ρ es) vs ↔ RepVE (E.comp ρ) es vs := RepVE.ren es
    have hn : renE ρ es = [] ↔ es = [] := by cases es <;> simp [renE]
    simp only [h, hn]
    rfl
  | .fsl es, v => by simp [V.ren, RepV, Env.comp]
  | .fn f cs, v => by simp only [V.ren, RepV, renL_len, RepVL.ren cs]
  | .agg cs, v => by simp only [V.ren, RepV, renL_len, RepVL.ren cs]
  | .tuple cs, v => by simp only [V.ren, RepV, renL_len, RepVL.ren cs]
theorem RepVL.ren {E : Env} {ρ : Nat → Nat} : ∀ (cs : List V) (vs : List Value), RepVL E (renL ρ cs) vs ↔ RepVL (E.comp ρ) cs vs
  | [], _ => by simp [renL, RepVL]
  | c :: cs, [] => by simp [renL, RepVL]
  | c :: cs, v :: vs => by simp only [renL, RepVL, RepV.ren c v, RepVL.ren cs vs]
theorem RepVE.ren {E : Env} {ρ : Nat → Nat} : ∀ (es : List (List V)) (vs : List Value), RepVE E (renE ρ es) vs ↔ RepVE (E.comp ρ) es vs
  | [], _ => by simp [renE, RepVE]
  | e :: es, vs => by simp only [renE, RepVE, renL_len, RepVL.ren e vs, RepVE.ren es (vs.drop e.length)]
end
theorem ObOK.ren {E : Env} {w : World} {ρ : Nat → Nat} {n : Nat} (o : Ob) : ObOK E w (ρ n) (o.ren ρ) ↔ ObOK (E.comp ρ) w n o := by
  cases o with
  | box cs => simp only [Ob.ren, ObOK, renL_len, RepVL.ren cs]; rfl
  | arr ver sz ty es =>
    have h : (∀ e ∈ renE ρ es, e.length = sz) ↔ ∀ e ∈ es, e.length = sz := by
      rw [renE_eq]
      simp [renL_len]
    simp only [Ob.ren, ObOK, renE_len, RepVE.ren es, h]
    rfl
  | cache D F => simp only [Ob.ren, ObOK]; rfl
mutual
theorem V.ren_names (ρ : Nat → Nat) : ∀ x : V, (x.ren ρ).names = x.names.map ρ
  | .undef => rfl
  | .pv _ => rfl
  | .loc _ _ => rfl
  | .eloc _ _ _ _ => rfl
  | .arr _ _ _ => rfl
  | .map _ => rfl
  | .vsl es => by simp only [V.ren, V.names, renE_names ρ es]
  | .fsl _ => rfl
  | .fn _ cs => by simp only [V.ren, V.names, renL_names ρ cs]
  | .agg cs => by simp only [V.ren, V.names, renL_names ρ cs]
  | .tuple cs => by simp only [V.ren, V.names, renL_names ρ cs]
theorem renL_names (ρ : Nat → Nat) : ∀ l : List V, namesL (renL ρ l) = (namesL l).map ρ
  | [] => rfl
  | c :: cs => by simp only [renL, namesL, V.ren_names ρ c, renL_names ρ cs, List.map_append]
theorem renE_names (ρ : Nat → Nat) : ∀ l : List (List V), namesE (renE ρ l) = (namesE l).map ρ
  | [] => rfl
  | e :: es => by simp only [renE, namesE, renL_names ρ e, renE_names ρ es, List.map_append]
end
theorem Ob.ren_names (ρ : Nat → Nat) (o : Ob) : (o.ren ρ).names = o.names.map ρ := by
  cases o with
  | box cs => simp only [Ob.ren, Ob.names, renL_names]
  | arr ver sz ty es => simp only [Ob.ren, Ob.names, renE_names]
  | cache D F => rfl
section
variable {ρ : Nat → Nat} (hρ : ∀ n, ρ (ρ n) = n)
include hρ
theorem ren_inj {a b : Nat} (h : ρ a = ρ b) : a = b := by rw [← hρ a, h, hρ]
theorem getO_ren (l : List (Nat × Ob)) (n : Nat) : getO (renO ρ l) n = (getO l (ρ n)).map (Ob.ren ρ) := by
  induction l with
  | nil => rfl
  | cons p r ih =>
    obtain ⟨k, o⟩ := p
    simp only [renO, getO, ih]
    by_cases e : ρ k = n
    · subst e
      simp [hρ]
    · have : ¬ k = ρ n := fun h => e (by rw [h, hρ])
      simp [e, this]
theorem keysO_ren (l : List (Nat × Ob)) : keysO (renO ρ l) = (keysO l).map ρ := by
  induction l with
  | nil => rfl
  | cons p r ih =>
    obtain ⟨k, o⟩ := p
    simp only [renO, keysO, List.map_cons] at ih ⊢
    rw [ih]
theorem mentL_ren (args : List V) (l : List (Nat × Ob)) : mentL (renL ρ args) (renO ρ l) = (mentL args l).map ρ := by
  have h : mentO (renO ρ l) = (mentO l).map ρ := by
    induction l with
    | nil => rfl
    | cons p r ih =>
      obtain ⟨k, o⟩ := p
      simp only [renO, mentO, List.map_append, Ob.ren_names, ih]
  simp only [mentL, renL_names, h, List.map_append]
theorem AC.ren {P : Program} {gl : Nat → Option (List PV)} {f : Nat} {args : List V} {objs : List (Nat × Ob)} {out : Out} {objs' : List (Nat × Ob)} (h : AC P gl f args objs out objs') :
    AC P gl f (renL ρ args) (renO ρ objs) (out.ren ρ) (renO ρ objs') := by
  have hmem : ∀ {l : List Nat} {n : Nat}, n ∈ l.map ρ ↔ ρ n ∈ l := by
    intro l n
    rw [List.mem_map]
    exact ⟨fun ⟨m, hm, e⟩ => by rw [← e, hρ]; exact hm, fun hm => ⟨ρ n, hm, hρ n⟩⟩
  have hget : ∀ {l : List (Nat × Ob)} {n : Nat} {o : Ob}, getO (renO ρ l) n = some o → ∃ o', getO l (ρ n) = some o' ∧ o'.ren ρ = o := by
    intro l n o hn
    rw [getO_ren hρ] at hn
    cases e : getO l (ρ n) with
    | none => rw [e] at hn; cases hn
    | some o' => rw [e] at hn; exact ⟨o', rfl, Option.some.inj hn⟩
  have hget' : ∀ {l : List (Nat × Ob)} {n : Nat} {o : Ob}, getO l n = some o → getO (renO ρ l) (ρ n) = some (o.ren ρ) := by
    intro l n o hn
    rw [getO_ren hρ, hρ, hn]
    rfl
  have hnone : ∀ {l : List (Nat × Ob)} {n : Nat}, getO (renO ρ l) n = none → getO l (ρ n) = none := by
    intro l n hn
    rw [getO_ren hρ] at hn
    cases e : getO l (ρ n) with
    | none => rfl
    | some o' => rw [e] at hn; cases hn
  refine ⟨h.direct, ?_, ?_, ?_⟩
  · intro n hn
    rw [keysO_ren hρ, keysO_ren hρ, mentL_ren hρ, hmem, hmem, hmem]
    cases out with
    | ret x =>
      simp only [Out.ren, Out.names, V.ren_names, hmem] at hn
      exact h.names (ρ n) hn
    | panic p => simp [Out.ren, Out.names] at hn
  · intro m o hm n hn
    obtain ⟨o', ho', rfl⟩ := hget hm
    rw [Ob.ren_names, hmem] at hn
    rw [keysO_ren hρ, keysO_ren hρ, mentL_ren hρ, hmem, hmem, hmem]
    exact h.namesO _ o' ho' _ hn
  · intro E w vs hB hl hr
    have hB' : Base gl (E.comp ρ) w objs := by
      refine ⟨hB.heap, hB.glob, fun n o hn => (ObOK.ren o).1 (hB.obs _ _ (hget' hn)), fun n m o o' hn hm hne b hb => ?_⟩
      exact hB.apart (ρ n) (ρ m) _ _ (hget' hn) (hget' hm) (fun e => hne (ren_inj hρ e)) b hb
    refine (h.calls (E.comp ρ) w vs hB' (by rw [hl, renL_len]) ((RepVL.ren args vs).1 hr)).mono ?_
    rintro e w' ⟨E', hD, ho⟩
    have hcomp : ∀ F : Env, (F.comp ρ).comp ρ = F := by
      intro F
      simp [Env.comp, hρ]
    refine ⟨E'.comp ρ, ⟨hD.heap, ?_, ?_, hD.hle, hD.size, hD.rest, ?_, ?_, ?_, ?_⟩, ?_⟩
    · intro n o hn
      obtain ⟨o', ho', rfl⟩ := hget hn
      have := hD.obs _ o' ho'
      rw [← hcomp E'] at this
      have := (ObOK.ren (E := E'.comp ρ) (n := ρ n) o').2 this
      rwa [hρ] at this
    · intro n m o o' hn hm hne b hb
      obtain ⟨q, hq, _⟩ := hget hn
      obtain ⟨q', hq', _⟩ := hget hm
      exact hD.apart (ρ n) (ρ m) q q' hq hq' (fun e => hne (ren_inj hρ e)) b hb
    · intro b hb hnb
      refine hD.same b hb (fun n o hn e => ?_)
      exact hnb (ρ n) _ (hget' hn) e
    · intro n o b hn hb
      obtain ⟨q, hq, _⟩ := hget hn
      rcases hD.own (ρ n) q b hq hb with h1 | ⟨m, o', hm, hbm⟩
      · exact .inl h1
      · exact .inr ⟨ρ m, _, hget' hm, hbm⟩
    · intro n o hn
      obtain ⟨q, hq, _⟩ := hget hn
      have := hD.ext (ρ n) q hq
      simpa [EExt, Env.comp, hρ] using this
    · intro n h1 h2
      have := hD.other (ρ n) (hnone h1) (hnone h2)
      simpa [Env.comp, hρ] using this
    · cases out with
      | ret x =>
        obtain ⟨v, rfl, hv⟩ := ho
        refine ⟨v, rfl, ?_⟩
        rw [← hcomp E'] at hv
        exact (RepV.ren x v).2 hv
      | panic p =>
        obtain ⟨v, rfl, hv⟩ := ho
        exact ⟨v, rfl, hv⟩
end
/-- two names change places -/
def swapN (a b : Nat) (n : Nat) : Nat := if n = a then b else if n = b then a else n
theorem swapN_inv (a b : Nat) : ∀ n, swapN a b (swapN a b n) = n := by
  intro n
  unfold swapN
  by_cases h1 : n = a
  · subst h1
    simp
  · by_cases h2 : n = b
    · subst h2
      simp [h1]
    · simp [h1, h2]
end Go.Lg
/- A drawn region in which a call panics, cut at the call. -/
namespace Go.Lg
theorem ex_drawC {X : Env1} {σ : St} {id : Nat} {l : List Oper} {Q : AEx → St → Prop} (j : Nat) {op : Oper}
    (h : runOps X true l (fun σj tr => ∃ f args objs p, calleeOf (σj.val X.gl) op.op = some (f, args) ∧ AC X.P X.gl f args objs (.panic p) [] ∧ subO objs σj.objs ∧ op.guard = none ∧
      checkDrawP l (tr ++ ⟨.undef, [], [], keysO objs⟩ :: (l.drop (j + 1)).map (fun _ => skipE)) j = true ∧ ∀ τ, Q (.panic p) τ) (fun _ _ => False) (l.take j) σ [])
    (hop : l[j]? = some op) : AWP X (.region id l.toArray true) σ Q := by
  have hj : j < l.length := (List.getElem?_eq_some_iff.1 hop).1
  have hlen : (l.take j).length = j := by simp; omega
  refine ex_drawP (pre := l.take j) (op := op) (post := l.drop (j + 1)) (by rw [hlen]; exact h) ?_
  conv => lhs; rw [← List.take_append_drop j l]
  congr 1
  rw [List.drop_eq_getElem_cons hj]
  congr 1
  rw [List.getElem?_eq_getElem hj] at hop
  exact Option.some.inj hop
end Go.Lg
/- What a variable holds may be forgotten. -/
namespace Go.Lg
def Fgt (σ σ2 : St) : Prop := ∀ (C : Ctx) (E : Env) (a : Act) (w : World), Ga C E σ a w → Ga C E σ2 a w
theorem AWP.fgt {X : Env1} {c : Code} {σ : St} {Q : AEx → St → Prop} (h : AWP X c σ (fun ae σ => ∃ σ2, Fgt σ σ2 ∧ Q ae σ2)) : AWP X c σ Q := by
  intro C E a w hC hG
  refine wp_mono (h C E a w hC hG) ?_
  rintro e a' w' ⟨E', σ', ae, hG', hrel, σ2, hf, hq⟩
  exact ⟨E', σ2, ae, hf _ _ _ _ hG', hrel, hq⟩
theorem Fgt.box {σ : St} {n : Nat} {cs cs' : List V} (hb : getO σ.objs n = some (.box cs)) (hl : cs'.length = cs.length) (h : ∀ (i : Nat) (x : V), cs'[i]? = some x → x = V.undef ∨ cs[i]? = some x) : Fgt σ ⟨σ.slots, setO σ.objs n (.box cs'), σ.used⟩ := by
  intro C E a w hG
  have := hG.change (E' := E) n (some (.box cs')) (setO σ.objs n (.box cs')) σ.used none .undef undef (fun m => getO_setO _ _ _ _) (Hle.refl _)
    (fun _ _ => ⟨rfl, rfl, rfl⟩) (fun _ => EExt.refl _ _) (fun _ => ⟨_, hb⟩) (Nat.le_refl _) ⟨rfl, rfl, rfl⟩ (fun _ _ _ => ⟨rfl, rfl⟩) hG.heap ?_ ?_ (fun _ h => h) (by simp [RepV]) (by simp [V.names]) (by simp)
  · exact this
  · intro o e
    cases e
    obtain ⟨bb, c, T, hg, hc, hl', hrep, h0⟩ := hG.objs n _ hb
    refine ⟨⟨bb, c, T, hg, hc, by rw [hl, hl'], ?_, h0⟩, (hG.usedO n _ hb).1, ?_⟩
    · rw [RepVL.iff] at hrep ⊢
      intro j x hx
      rcases h j x hx with rfl | hx'
      · have hj : j < cs'.length := (List.getElem?_eq_some_iff.1 hx).1
        obtain ⟨v, hv, _⟩ := hrep j _ (List.getElem?_eq_getElem (by omega))
        exact ⟨v, hv, by simp [RepV]⟩
      · exact hrep j x hx'
    · intro m hm
      obtain ⟨x, hx, hm⟩ := mem_namesL.1 (by simpa only [Ob.names] using hm)
      obtain ⟨i, hi⟩ := List.mem_iff_getElem?.1 hx
      rcases h i x hi with rfl | hx'
      · simp [V.names] at hm
      · exact (hG.usedO n _ hb).2 m (mem_namesL.2 ⟨x, List.mem_of_getElem? hx', hm⟩)
  · intro o bb e hbb
    exact .inr ⟨hbb, _, hb⟩
end Go.Lg
/- The machine, plainly. -/
namespace Go.Lg
/-- cells on the way: numbers, lists, pairs, the unit, functions with the cells of their variables (the last one first) -/
inductive It where
  | num (n : Nat)
  | list (l : List Nat)
  | pair (a b : It)
  | unit
  | fn (at_ : Nat) (vars : List It)
mutual
def It.more : It → Nat
  | .num _ => 0
  | .list _ => 0
  | .unit => 0
  | .pair a b => 2 + a.more + b.more
  | .fn _ vs => insideL vs
def insideL : List It → Nat
  | [] => 0
  | x :: r => insideL r + 1 + x.more
end
mutual
def It.func : It → Bool
  | .num _ => false
  | .list _ => false
  | .unit => false
  | .pair a b => a.func || b.func
  | .fn _ _ => true
end
def funcL : List It → Bool
  | [] => false
  | x :: r => funcL r || x.func
def It.kind : It → Int
  | .num _ => 1
  | .list _ => 2
  | .pair _ _ => 3
  | .unit => 4
  | .fn _ _ => 5
def linkP : List Nat → PV
  | [] => .nil
  | h :: t => .ptr [.int h, .int ((t.length + 1 : Nat) : Int), linkP t]
mutual
def itP : It → PV
  | .num n => .ptr [.int 1, .int n, .nil, .nil, .nil, .int 0, .nil, .int 0, .bool false]
  | .list l => .ptr [.int 2, .int 0, linkP l, .nil, .nil, .int 0, .nil, .int 0, .bool false]
  | .pair a b => .ptr [.int 3, .int 0, .nil, itP a, itP b, .int 0, .nil, .int ((2 + a.more + b.more : Nat) : Int), .bool (a.func || b.func)]
  | .unit => .ptr [.int 4, .int 0, .nil, .nil, .nil, .int 0, .nil, .int 0, .bool false]
  | .fn a vs => .ptr [.int 5, .int 0, .nil, .nil, .nil, .int a, varsP vs, .int (insideL vs), .bool true]
def varsP : List It → PV
  | [] => .nil
  | x :: r => .ptr [itP x, .int ((r.length + 1 : Nat) : Int), .int ((insideL r + 1 + x.more : Nat) : Int), .bool (funcL r || x.func), varsP r]
end
def It.num0 : It → Int
  | .num n => n
  | _ => 0
def It.list0 : It → PV
  | .list l => linkP l
  | _ => .nil
def It.fst0 : It → PV
  | .pair a _ => itP a
  | _ => .nil
def It.snd0 : It → PV
  | .pair _ b => itP b
  | _ => .nil
def It.at0 : It → Int
  | .fn a _ => a
  | _ => 0
def It.vars0 : It → PV
  | .fn _ vs => varsP vs
  | _ => .nil
theorem itP_eq (x : It) : itP x = .ptr [.int x.kind, .int x.num0, x.list0, x.fst0, x.snd0, .int x.at0, x.vars0, .int x.more, .bool x.func] := by
  cases x <;> rfl
theorem linkP_one (l : List Nat) : (linkP l).one = true := by cases l <;> rfl
theorem itP_one (x : It) : (itP x).one = true := by cases x <;> rfl
theorem varsP_one (l : List It) : (varsP l).one = true := by cases l <;> rfl
theorem list0_one (x : It) : x.list0.one = true := by cases x <;> first | rfl | exact linkP_one _
theorem fst0_one (x : It) : x.fst0.one = true := by cases x <;> first | rfl | exact itP_one _
theorem snd0_one (x : It) : x.snd0.one = true := by cases x <;> first | rfl | exact itP_one _
theorem vars0_one (x : It) : x.vars0.one = true := by cases x <;> first | rfl | exact varsP_one _

/-- the rounds of a recursion that are left -/
structure Rd where
  f : It
  next : Nat
  args : Option (List (Nat × List Nat))
  count : Nat
  result : It
  left : List It
def Rd.begin (r : Rd) : Option (It × It × Rd) := match r.args with
  | none => some (r.f, .num r.next, { r with left := [r.result] })
  | some l => match l[r.next]? with
    | some (h, t) => some (r.f, .num h, { r with left := [.list t, r.result] })
    | none => none
/-- what a call of a round returned: the next call, or the last result -/
def Rd.returned (r : Rd) (x : It) : Option (Option (It × It) × Rd) := match r.left with
  | a :: rest => some (some (x, a), { r with left := rest })
  | [] => if r.next + 1 = r.count then some (none, { r with result := x, next := r.next + 1 })
    else match Rd.begin { r with result := x, next := r.next + 1 } with
      | some (f, a, r') => some (some (f, a), r')
      | none => none
structure Fr where
  at_ : Int
  vars : List It
  f : It
  a : It
  rd : Option (Nat × Rd)
structure Ms where
  steps : Nat
  stack : List It
  sg : List It
  sv : Nat
  frames : List Fr
  fg : List Fr
  fv : Nat
  at_ : Int
  vars : List It
def Ms.push (m : Ms) (x : It) : Ms := { m with stack := m.stack ++ [x], sg := [], sv := m.sv + 1 }
def Ms.pop (m : Ms) : Option (It × Ms) := match m.stack.getLast? with
  | some x => some (x, { m with stack := m.stack.dropLast, sg := x :: m.sg })
  | none => none
inductive Res where
  | go (m : Ms)
  | stop (m : Ms)
  | err (e : Nat)
/-- entering a function -/
def Ms.enter (m : Ms) (f a : It) (rd : Option (Nat × Rd)) : Res := match f with
  | .fn p vs => if 1024 ≤ m.frames.length then .err 4
    else .go { m with frames := m.frames ++ [⟨m.at_, m.vars, f, a, rd⟩], fg := [], fv := m.fv + 1, at_ := p, vars := a :: vs }
  | _ => .err 44
/-- the pairs of a fold, from the last element on -/
def foldArgs : List Nat → List (Nat × List Nat)
  | [] => []
  | h :: t => foldArgs t ++ [(h, t)]
theorem foldArgs_len (l : List Nat) : (foldArgs l).length = l.length := by
  induction l with
  | nil => rfl
  | cons h t ih => simp [foldArgs, ih]
def rdOf (f b : It) (list : Bool) (x : It) : Option Rd := match list, x with
  | true, .list l => some ⟨f, 0, some (foldArgs l), l.length, b, []⟩
  | false, .num k => some ⟨f, 0, none, k, b, []⟩
  | _, _ => none
def Ms.recursion (m : Ms) (n : Nat) (list : Bool) : Option Res := match m.pop with
  | none => none
  | some (x, m) => match m.pop with
    | none => none
    | some (f, m) => match m.pop with
      | none => none
      | some (b, m) => match f with
        | .fn _ _ => match rdOf f b list x with
          | none => some (.err 44)
          | some r => if r.count = 0 then some (.go (m.push b))
            else match r.begin with
              | some (g, a, r') => some (m.enter g a (some (n, r')))
              | none => none
        | _ => some (.err 44)
def Ms.popF (m : Ms) : Option (Fr × Ms) := match m.frames.getLast? with
  | some x => some (x, { m with frames := m.frames.dropLast, fg := x :: m.fg, at_ := x.at_, vars := x.vars })
  | none => none
def stopIf (m : Ms) : Res := if 0 ≤ m.at_ then .go m else .stop m
def Ms.leave (m : Ms) : Option Res := match m.pop with
  | none => none
  | some (x, m) => match m.popF with
    | none => some (.stop (m.push x))
    | some (fr, m) => match fr.rd with
      | none => some (stopIf (m.push x))
      | some (n, r) => match r.returned x with
        | none => none
        | some (none, _) => some (stopIf (m.push x))
        | some (some (f, a), r') => some (m.enter f a (some (n, r')))
def made (m : Ms) (x : It) : Res := if 1024 ≤ x.more then .err 4 else .go (m.push x)
/-- one instruction; n is a new name -/
def Ms.exec (m : Ms) (n : Nat) (op a : Nat) : Option Res := match op with
  | 1 => match m.vars[a]? with
    | some x => some (.go (m.push x))
    | none => some (.err 44)
  | 2 => some (made m (.fn a m.vars))
  | 3 => match m.pop with
    | none => none
    | some (x, m) => match m.pop with
      | none => none
      | some (f, m) => some (m.enter f x none)
  | 4 => some (.go (m.push (.num 0)))
  | 5 => match m.pop with
    | none => none
    | some (.num k, m) => some (.go (m.push (.num (k + 1))))
    | some _ => some (.err 44)
  | 6 => m.recursion n false
  | 9 => m.recursion n true
  | 7 => some (.go (m.push (.list [])))
  | 8 => match m.pop with
    | none => none
    | some (l, m) => match m.pop with
      | none => none
      | some (h, m) => match h, l with
        | .num h, .list l => if 1024 ≤ l.length then some (.err 4) else some (.go (m.push (.list (h :: l))))
        | _, _ => some (.err 44)
  | 10 => match m.pop with
    | none => none
    | some (b, m) => match m.pop with
      | none => none
      | some (a, m) => some (made m (.pair a b))
  | 11 => match m.pop with
    | none => none
    | some (.pair a _, m) => some (.go (m.push a))
    | some _ => some (.err 44)
  | 12 => match m.pop with
    | none => none
    | some (.pair _ b, m) => some (.go (m.push b))
    | some _ => some (.err 44)
  | 13 => some (.go (m.push .unit))
  | _ => m.leave
def Ms.step (c : List (Nat × Nat)) (limit : Nat) (n : Nat) (m : Ms) : Option Res :=
  if m.steps = limit then some (.err 5)
  else if m.at_ < 0 then none
  else match c[m.at_.toNat]? with
    | none => none
    | some (op, a) => Ms.exec { m with steps := m.steps + 1, at_ := m.at_ + 1 } n op a
end Go.Lg
