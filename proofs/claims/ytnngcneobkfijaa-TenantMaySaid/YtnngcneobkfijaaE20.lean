/- The engine, part 20: a region goes as reckoned, in whatever order. -/
import Derived.Test.YtnngcneobkfijaaE19
set_option linter.unusedSimpArgs false
set_option linter.unusedVariables false
namespace Go.Eng
section
variable {P : Program} {E : Env} {w : World} {I : Nat → Prop} {ρ : Rho} {n : Nat} {a : Act}

def Lst (listed : Array Bool) (i : Nat) : Bool := listed.getD i false

theorem Lst_eq (listed : Array Bool) (i : Nat) : Lst listed i = listed[i]?.getD false := by simp [Lst]

theorem Lst_set {listed : Array Bool} {i : Nat} (hi : i < listed.size) : Lst (listed.setIfInBounds i true) = fun q => q == i || Lst listed q := by
  funext q
  simp only [Lst, Array.getD_eq_getD_getElem?, Array.getElem?_setIfInBounds]
  by_cases e : i = q
  · subst e; simp [hi]
  · rw [if_neg e]
    have : (q == i) = false := by simp; exact fun h => e h.symm
    rw [this, Bool.false_or]

theorem ready_spec {ops : Array Oper} {listed : Array Bool} {i : Nat} (hs : listed.size = ops.size) (h : i ∈ Region.ready .any ops listed) : i < ops.size ∧ Lst listed i = false ∧ Preds ops (Lst listed) i := by
  unfold Region.ready at h
  rw [List.mem_filter] at h
  obtain ⟨h1, h2⟩ := h
  have hi : i < ops.size := by simpa using h1
  simp only [Bool.and_eq_true, Bool.not_eq_true'] at h2
  refine ⟨hi, ?_, fun o ho e he hb => ?_⟩
  · have := h2.1
    rw [Array.getD_eq_getD_getElem?] at this
    rw [Lst_eq]
    have hl : i < listed.size := by omega
    rw [Array.getElem?_eq_getElem hl] at this ⊢
    exact this
  · have := h2.2
    rw [ho] at this
    simp only [Option.map_some, Option.getD_some] at this
    rw [← Array.all_toList] at this
    have := List.all_eq_true.1 this e he
    rw [hb] at this
    simpa [Lst_eq] using this

theorem ready_of {ops : Array Oper} {listed : Array Bool} {i : Nat} (hs : listed.size = ops.size) (hi : i < ops.size) (h1 : Lst listed i = false) (h2 : Preds ops (Lst listed) i) : i ∈ Region.ready .any ops listed := by
  unfold Region.ready
  rw [List.mem_filter]
  refine ⟨by simpa using hi, ?_⟩
  have hl : i < listed.size := by omega
  have ho : ops[i]? = some ops[i] := Array.getElem?_eq_getElem hi
  simp only [Bool.and_eq_true, Bool.not_eq_true']
  refine ⟨?_, ?_⟩
  · simp only [Lst, Array.getD_eq_getD_getElem?] at h1 ⊢
    rw [Array.getElem?_eq_getElem hl] at h1 ⊢
    simpa using h1
  · rw [ho]
    simp only [Option.map_some, Option.getD_some]
    rw [← Array.all_toList]
    refine List.all_eq_true.2 fun e he => ?_
    cases hb : Region.binds .any e with
    | false => rfl
    | true => have := h2 _ ho e he hb; rw [Lst_eq] at this; simpa using this

theorem ready_nil {ops : Array Oper} {listed : Array Bool} (hs : listed.size = ops.size) (hr : Region.ready .any ops listed = []) (he : edgesOk ops.toList 0 = true) : ∀ i, i < ops.size → Lst listed i = true := by
  intro i
  induction i using Nat.strongRecOn with
  | _ i ih =>
    intro hi
    cases hl : Lst listed i with
    | true => rfl
    | false =>
      have := ready_of hs hi hl fun o ho e hmem hb => by
        have hlt := edgesOk_spec (ops := ops) ops.toList 0 he (fun j => by simp) i o (by simpa using ho) e hmem hb
        exact ih e.on (by omega) (by omega)
      rw [hr] at this
      cases this

def unl (S : Nat → Bool) (n : Nat) : Nat := ((List.range n).filter fun i => !S i).length
theorem unl_set {S : Nat → Bool} {n i : Nat} (hi : i < n) (hS : S i = false) : unl (fun q => q == i || S q) n + 1 ≤ unl S n := by
  unfold unl
  have : ∀ (l : List Nat), (l.filter fun q => !(q == i || S q)).length + (if i ∈ l then 1 else 0) ≤ (l.filter fun q => !S q).length := by
    intro l
    induction l with
    | nil => simp
    | cons x l ih =>
      by_cases e : x = i
      · subst e
        rw [List.filter_cons_of_neg (by simp), List.filter_cons_of_pos (by simp [hS])]
        simp only [List.length_cons, List.mem_cons, true_or, if_true]
        split at ih <;> omega
      · have e2 : ¬ i = x := fun h => e h.symm
        simp only [List.mem_cons, e2, false_or]
        cases hx : S x with
        | false =>
          rw [List.filter_cons_of_pos (by simp [e, hx]), List.filter_cons_of_pos (by simp [hx])]
          simp only [List.length_cons]
          omega
        | true =>
          rw [List.filter_cons_of_neg (by simp [hx]), List.filter_cons_of_neg (by simp [hx])]
          exact ih
  have := this (List.range n)
  rw [if_pos (by simpa using hi)] at this
  exact this
theorem unl_zero {S : Nat → Bool} {n : Nat} (h : unl S n = 0) : ∀ i, i < n → S i = true := by
  intro i hi
  cases hS : S i with
  | true => rfl
  | false =>
    have := unl_set hi hS
    omega

structure DrawFacts (P : Program) (E : Env) (ops : Array Oper) (steps : List Stp) (f0 : Vw) (L0 : Nat) (s' : St) : Prop where
  opsAt : ∀ (i : Nat) (st : Stp), steps[i]? = some st → ops[i]? = some st.o
  len : steps.length = ops.size
  ok : ∀ (i : Nat) (st : Stp), steps[i]? = some st → StpOk P E ops.toList st (allV (steps.take i) f0)
  ord : ∀ (i j : Nat) (st st' : Stp), i < j → steps[i]? = some st → steps[j]? = some st' → st.rc.clash st'.rc = true → ((aheads ops.toList []).getD j 0).testBit i = true
  chain : Chain L0 steps s'.hp.length
  edges : edgesOk ops.toList 0 = true
  fin : RefV (allV steps f0) (vw s')

theorem draw_ok {ops : Array Oper} (hE : EnvOk P E) (hdst : ∀ o, o ∈ ops.toList → ∀ d, o.dst = some d → d < n) {Q : Exit → Act → World → Prop} {steps : List Stp} {f0 : Vw} {L0 : Nat} {s' : St} (F : DrawFacts P E ops steps f0 L0 s') {ρ0 : Rho} {I0 : Nat → Prop} {w0 : World}
    (hQ : ∀ a' w' ρ' I', Ext f0.ob ρ0 I0 w0 s'.hp.at? ρ' I' w' → RelS n s' ρ' I' a' w' → Q .normal a' w') : (fuel : Nat) → (listed : Array Bool) → listed.size = ops.size → (∀ i, Lst listed i = true → Preds ops (Lst listed) i) → unl (Lst listed) ops.size ≤ fuel →
    ∀ (a : Act) (w : World) (ρ : Rho) (I : Nat → Prop), RelF n (viewOf (Lst listed) steps 0 f0) ρ I a w → (∀ id x, ρ id = some x → id < L0 ∨ ∃ j st, steps[j]? = some st ∧ Lst listed j = true ∧ st.nid ≤ id ∧ id < st.nid + st.out.new.length) →
      Ext f0.ob ρ0 I0 w0 (viewOf (Lst listed) steps 0 f0).ob ρ I w → wpAny P .any ops Q fuel listed a w := by
  intro fuel
  have fin : ∀ (listed : Array Bool), (∀ i, i < ops.size → Lst listed i = true) → ∀ (a : Act) (w : World) (ρ : Rho) (I : Nat → Prop), RelF n (viewOf (Lst listed) steps 0 f0) ρ I a w → (∀ id x, ρ id = some x → id < L0 ∨ ∃ j st, steps[j]? = some st ∧ Lst listed j = true ∧ st.nid ≤ id ∧ id < st.nid + st.out.new.length) →
      Ext f0.ob ρ0 I0 w0 (viewOf (Lst listed) steps 0 f0).ob ρ I w → Q .normal a w := by
    intro listed hall a w ρ I hR hdom hX
    have hv := viewOf_all (S := Lst listed) steps 0 f0 fun j hj => by rw [Nat.zero_add]; exact hall j (by rw [← F.len]; exact hj)
    rw [hv] at hR hX
    refine hQ a w ρ I ?_ ⟨hR.refine F.fin, fun id x hx => ?_⟩
    · have := F.fin.ob
      rw [this] at hX
      exact hX
    · rcases hdom id x hx with h | ⟨j, st, h1, _, _, h4⟩
      · exact Nat.lt_of_lt_of_le h F.chain.le
      · have := F.chain.mem h1; omega
  induction fuel with
  | zero =>
    intro listed hs hcl hf a w ρ I hR hdom hX
    have hall := unl_zero (Nat.le_zero.1 hf)
    refine ⟨?_, fin listed hall a w ρ I hR hdom hX⟩
    cases hr : Region.ready .any ops listed with
    | nil => rfl
    | cons i r =>
      obtain ⟨h1, h2, _⟩ := ready_spec (i := i) hs (by rw [hr]; exact List.mem_cons_self ..)
      rw [hall i h1] at h2
      cases h2
  | succ fuel ih =>
    intro listed hs hcl hf a w ρ I hR hdom hX
    refine ⟨fun hr => fin listed (ready_nil hs hr F.edges) a w ρ I hR hdom hX, fun i hi => ?_⟩
    obtain ⟨hi1, hi2, hi3⟩ := ready_spec hs hi
    have hilt : i < steps.length := by rw [F.len]; exact hi1
    obtain ⟨st, hst⟩ : ∃ st, steps[i]? = some st := ⟨_, List.getElem?_eq_getElem hilt⟩
    have ho := F.opsAt i st hst
    have hok := F.ok i st hst
    have hmem : st.o ∈ ops.toList := Array.mem_toList_iff.2 (Array.mem_of_getElem? ho)
    -- who is not ordered against it
    have hah := aheads_ok hcl ops.toList [] (fun j => by simp) (fun k hk => by simp at hk)
    have before : ∀ j stj, steps[j]? = some stj → Lst listed j = false → j < i → stj.rc.clash st.rc = false := by
      intro j stj h1 h2 h3
      cases hc : stj.rc.clash st.rc with
      | false => rfl
      | true =>
        have := hah i hi3 j (F.ord j i stj st h3 h1 hst hc)
        rw [h2] at this
        cases this
    have behind : ∀ j stj, steps[j]? = some stj → Lst listed j = true → i < j → st.rc.clash stj.rc = false := by
      intro j stj h1 h2 h3
      cases hc : st.rc.clash stj.rc with
      | false => rfl
      | true =>
        have := hah j (hcl j h2) i (F.ord i j st stj h3 hst h1 hc)
        rw [hi2] at this
        cases this
    have hne : ∀ j stj, steps[j]? = some stj → Lst listed j = true → j ≠ i := fun j stj _ h2 e => by rw [e, hi2] at h2; cases h2
    have atm : ∀ t, t ∈ st.rc.looks → (viewOf (Lst listed) steps 0 f0).tm t = (allV (steps.take i) f0).tm t := by
      intro t ht
      refine agree_tm steps 0 i f0 f0 rfl fun j stj h1 h2 => ?_
      rw [Nat.zero_add] at h2
      rcases h2 with ⟨h2, h3⟩ | ⟨h2, h3⟩
      · have := behind j stj h1 h2 (by have := hne j stj h1 h2; omega)
        exact (clash_apart hok (F.ok j stj h1) this).2.2.1 t ht
      · exact (clash_apart (F.ok j stj h1) hok (before j stj h1 h2 h3)).2.1 t ht
    have aob : ∀ id, id ∈ st.rc.touch → (viewOf (Lst listed) steps 0 f0).ob id = (allV (steps.take i) f0).ob id := by
      intro id hid
      refine agree_ob steps 0 i f0 f0 rfl fun j stj h1 h2 => ?_
      rw [Nat.zero_add] at h2
      rcases h2 with ⟨h2, h3⟩ | ⟨h2, h3⟩
      · have := behind j stj h1 h2 (by have := hne j stj h1 h2; omega)
        exact (clash_apart hok (F.ok j stj h1) this).2.2.2.2 id hid
      · exact (clash_apart (F.ok j stj h1) hok (before j stj h1 h2 h3)).2.2.2.1 id hid
    have hlooks : ∀ t, t ∈ st.rc.looks → Rv w I ρ (tget st.s.tm t) (a.tmps.getD t Go.undef) := by
      intro t ht
      have h1 := hR.tm t
      rw [atm t ht] at h1
      exact (hok.ref.tm t).rel h1
    have hins : viewOf (Lst (listed.setIfInBounds i true)) steps 0 f0 = appV st (viewOf (Lst listed) steps 0 f0) := by
      rw [Lst_set (by omega)]
      have := viewOf_insert (S := Lst listed) (st := st) steps 0 i f0 hst (by rw [Nat.zero_add]; exact hi2) fun j stj h0 h1 h2 => by
        rw [Nat.zero_add] at h2
        exact (clash_apart hok (F.ok j stj h1) (behind j stj h1 h2 h0)).1
      rw [Nat.zero_add] at this
      exact this
    have hs' : (listed.setIfInBounds i true).size = ops.size := by simp [hs]
    have hcl' : ∀ j, Lst (listed.setIfInBounds i true) j = true → Preds ops (Lst (listed.setIfInBounds i true)) j := by
      rw [Lst_set (by omega)]
      intro j hj o' ho' e he hb
      simp only [Bool.or_eq_true] at hj ⊢
      right
      rcases hj with hj | hj
      · have : j = i := by simpa using hj
        subst this
        exact hi3 o' ho' e he hb
      · exact hcl j hj o' ho' e he hb
    have hf' : unl (Lst (listed.setIfInBounds i true)) ops.size ≤ fuel := by
      rw [Lst_set (by omega)]
      have := unl_set (S := Lst listed) hi1 hi2
      omega
    have lst_mono : ∀ j, Lst listed j = true → Lst (listed.setIfInBounds i true) j = true := fun j hj => by
      rw [Lst_set (by omega)]
      simp [hj]
    have lst_i : Lst (listed.setIfInBounds i true) i = true := by
      rw [Lst_set (by omega)]
      simp
    have hfresh : ∀ q, st.nid ≤ q → q < st.nid + st.out.new.length → ρ q = none := by
      intro q h1 h2
      cases hq : ρ q with
      | none => rfl
      | some x =>
        rcases hdom q x hq with h | ⟨j, stj, k1, k2, k3, k4⟩
        · have := F.chain.mem hst; omega
        · have := hne j stj k1 k2
          rcases Nat.lt_or_ge j i with h | h
          · have := F.chain.apart h k1 hst; omega
          · have := F.chain.apart (show i < j by omega) hst k1; omega
    obtain ⟨g, hg, hgl⟩ := hok.guard
    have hw := guard_wanted (a := a) (w := w) (I := I) (ρ := ρ) hg fun t ht => hlooks t (hgl t ht)
    unfold wpOp
    rw [ho]
    simp only [hw]
    cases hrun : st.run with
    | true =>
      rw [if_pos rfl]
      left
      obtain ⟨τ, h1, h2, h3⟩ := hok.exec hrun
      have hval : ∀ x, Rv w I ρ (maskV (opTmps st.o.op) st.s.tm x) (a.eval x) := by
        intro x
        cases x with
        | tmp t =>
          simp only [maskV, Act.eval]
          cases hc : hasN (opTmps st.o.op) t with
          | true => exact hlooks t (h3 t (by simpa using hc))
          | false => trivial
        | const v => exact constV_ok v
        | func k => exact ⟨#[], rfl, trivial⟩
        | global g => trivial
      refine evOp_goes (P := P) (nid := st.nid) hR (h := maskH τ st.s.hp) (fun id o' hm => ?_) (hdst _ hmem) hval hE h1 hfresh _ _ fun a' w' ρ' I' q1 q2 q3 => ?_
      · obtain ⟨k1, k2⟩ := mask_at _ _ _ _ hm
        rw [aob id (h2 id k1), hok.ref.ob]
        exact k2
      · refine ih _ hs' hcl' hf' a' w' ρ' I' ?_ ?_ ?_
        · rw [hins]; exact q3
        · intro id x hx
          rcases q2 id x hx with h | h
          · rcases hdom id x h with h | ⟨j, stj, k1, k2, k3⟩
            · exact .inl h
            · exact .inr ⟨j, stj, k1, lst_mono j k2, k3⟩
          · exact .inr ⟨i, st, hst, lst_i, h.1, h.2⟩
        · rw [hins]; exact hX.trans q1
    | false =>
      rw [if_neg (by simp)]
      have hout := hok.skip hrun
      have hob : (appV st (viewOf (Lst listed) steps 0 f0)).ob = (viewOf (Lst listed) steps 0 f0).ob := by
        simp only [appV, Vw.after, hout, updO, newO_nil]
      refine ih _ hs' hcl' hf' _ w ρ I ?_ ?_ ?_
      · rw [hins]
        simp only [appV, Vw.after, hout, updO, newO_nil]
        cases hd : st.o.dst with
        | none => simpa [Act.put] using hR
        | some d => exact hR.put (hdst _ hmem d hd) rfl
      · intro id x hx
        rcases hdom id x hx with h | ⟨j, stj, k1, k2, k3⟩
        · exact .inl h
        · exact .inr ⟨j, stj, k1, lst_mono j k2, k3⟩
      · rw [hins, hob]; exact hX

theorem RelF.drawn {f : Vw} (h : RelF n f ρ I a w) : RelF n f ρ I a { w with drawn := w.drawn + 1 } ∧ Ext f.ob ρ I w f.ob ρ I { w with drawn := w.drawn + 1 } := by
  have hE : Ext f.ob ρ I w f.ob ρ I { w with drawn := w.drawn + 1 } := ⟨rfl, rfl, rfl, Nat.le_refl _, fun _ _ h => h, fun _ h => h, fun _ _ h => .inl h, fun _ _ h => h, fun _ _ _ => rfl⟩
  exact ⟨⟨h.heap.mono (Nat.le_refl _) fun _ _ => rfl, h.defers, h.size, fun t => Rv.mono (w := w) (w' := { w with drawn := w.drawn + 1 }) (I := I) (ρ := ρ) (fun _ h => h) (fun _ _ => rfl) (fun _ _ h => h) (h.tm t)⟩, hE⟩

theorem evRegion_ok {id : Nat} {ops : Array Oper} {draw : Bool} (hmix : P.follows .mixedOrders = true) (hE : EnvOk P E) (hdst : ∀ o, o ∈ ops.toList → ∀ d, o.dst = some d → d < n) {Q : Exit → Act → World → Prop} {s s' : St} (he : (evRegion P E ops draw s).run = some s') (hR : RelS n s ρ I a w)
    (hQ : ∀ a' w' ρ' I', Ext s.hp.at? ρ I w s'.hp.at? ρ' I' w' → RelS n s' ρ' I' a' w' → Q .normal a' w') : (Code.region id ops draw).wp P Q a w := by
  unfold evRegion at he
  cases draw with
  | false =>
    simp only [cond_false] at he
    refine wp_region ?_
    have := evOps_ok (Q := Q) hE hdst ops.toList 0 (fun j => by simp) s s' he hR hQ
    rwa [Array.length_toList, ← List.range_eq_range'] at this
  | true =>
    simp only [cond_true] at he
    obtain ⟨⟨s2, rs⟩, h1, h2⟩ := bind_run he
    cases hb : (edgesOk ops.toList 0 && ordered (aheads ops.toList []) rs 0) with
    | false => rw [hb] at h2; exact (fail_run h2).elim
    | true =>
      rw [hb] at h2
      cases leaf_run h2
      simp only [Bool.and_eq_true] at hb
      obtain ⟨steps, m1, m2, m3, m4, m5⟩ := trace ops.toList s s2 rs h1 (vw s) (.refl _)
      have F : DrawFacts P E ops steps (vw s) s.hp.length s2 := by
        refine ⟨fun i st hi => ?_, ?_, m5, fun i j st st' hlt hi hj hc => ?_, m4, hb.1, m3⟩
        · have : (steps.map (·.o))[i]? = some st.o := by simp [hi]
          rw [m2] at this
          simpa using this
        · have := congrArg List.length m2
          simpa using this
        · have := ordered_ok rs 0 hb.2 i j st.rc st'.rc hlt (by rw [← m1]; simp [hi]) (by rw [← m1]; simp [hj]) hc
          simpa using this
      refine wp_region_any hmix ?_
      obtain ⟨r1, r2⟩ := hR.rel.drawn
      have hnone : Lst (Array.replicate ops.size false) = fun _ => false := by
        funext i
        simp only [Lst, Array.getD_eq_getD_getElem?, Array.getElem?_replicate]
        split <;> rfl
      have hv0 : viewOf (fun _ => false) steps 0 (vw s) = vw s := by
        have : ∀ (l : List Stp) (k : Nat) (f : Vw), viewOf (fun _ => false) l k f = f := by
          intro l
          induction l with
          | nil => intro _ _; rfl
          | cons x l ih => intro k f; simp only [viewOf, cond_false]; exact ih _ _
        exact this _ _ _
      refine draw_ok (f0 := vw s) hE hdst F (ρ0 := ρ) (I0 := I) (w0 := w) (fun a' w' ρ' I' q1 q2 => hQ a' w' ρ' I' q1 q2) ops.size _ (by simp) (by rw [hnone]; intro i hi; cases hi) ?_ a _ ρ I ?_ (fun id x hx => .inl (hR.dom id x hx)) ?_
      · unfold unl
        refine Nat.le_trans (List.length_filter_le _ _) (by simp)
      · rw [hnone, hv0]; exact r1
      · rw [hnone, hv0]; exact r2
end
end Go.Eng
