/- The engine, part 20N: what is made of a state behind a region. -/
import Derived.Test.YtnngcneobkfijaaE20
set_option linter.unusedSimpArgs false
set_option linter.unusedVariables false
namespace Go.Eng
section
variable {P : Program} {w : World} {I : Nat → Prop} {ρ : Rho} {ob : Nat → Option Obj} {n : Nat} {a : Act}

/-- A state goes on from another one; of its objects the first are the same. -/
structure ExtB (base : Nat) (ob : Nat → Option Obj) (ρ : Rho) (I : Nat → Prop) (w : World) (ob' : Nat → Option Obj) (ρ' : Rho) (I' : Nat → Prop) (w' : World) : Prop where
  os : w'.os = w.os
  tape : w'.tape = w.tape
  output : w'.output = w.output
  size : w.heap.size ≤ w'.heap.size
  rho : ∀ id x, id < base → ρ id = some x → ρ' id = some x
  imm : ∀ b, I b → I' b
  immNew : ∀ b, b < w.heap.size → I' b → I b ∨ ActB ob ρ b
  act : ∀ b, b < w.heap.size → ActB ob' ρ' b → ActB ob ρ b
  frame : ∀ b, b < w.heap.size → ¬ ActB ob ρ b → w'.heap[b]? = w.heap[b]?

theorem Ext.toB {ob' : Nat → Option Obj} {ρ' : Rho} {I' : Nat → Prop} {w' : World} (h : Ext ob ρ I w ob' ρ' I' w') (base : Nat) : ExtB base ob ρ I w ob' ρ' I' w' :=
  ⟨h.os, h.tape, h.output, h.size, fun id x _ hx => h.rho id x hx, h.imm, h.immNew, h.act, h.frame⟩
theorem ExtB.refl (base : Nat) (ob : Nat → Option Obj) (ρ : Rho) (I : Nat → Prop) (w : World) : ExtB base ob ρ I w ob ρ I w := (Ext.refl ob ρ I w).toB base
theorem ExtB.full {base : Nat} {ob' : Nat → Option Obj} {ρ' : Rho} {I' : Nat → Prop} {w' : World} (h : ExtB base ob ρ I w ob' ρ' I' w') (hd : ∀ id x, ρ id = some x → id < base) : Ext ob ρ I w ob' ρ' I' w' :=
  ⟨h.os, h.tape, h.output, h.size, fun id x hx => h.rho id x (hd id x hx) hx, h.imm, h.immNew, h.act, h.frame⟩
theorem ExtB.trans {base : Nat} {ob0 ob1 ob2 : Nat → Option Obj} {ρ0 ρ1 ρ2 : Rho} {I0 I1 I2 : Nat → Prop} {w0 w1 w2 : World}
    (h : ExtB base ob0 ρ0 I0 w0 ob1 ρ1 I1 w1) (k : ExtB base ob1 ρ1 I1 w1 ob2 ρ2 I2 w2) : ExtB base ob0 ρ0 I0 w0 ob2 ρ2 I2 w2 := {
  os := k.os.trans h.os
  tape := k.tape.trans h.tape
  output := k.output.trans h.output
  size := Nat.le_trans h.size k.size
  rho := fun id x hb hx => k.rho id x hb (h.rho id x hb hx)
  imm := fun b hb => k.imm b (h.imm b hb)
  immNew := fun b hb hi => by
    rcases k.immNew b (Nat.lt_of_lt_of_le hb h.size) hi with h1 | h1
    · exact h.immNew b hb h1
    · exact .inr (h.act b hb h1)
  act := fun b hb ha => h.act b hb (k.act b (Nat.lt_of_lt_of_le hb h.size) ha)
  frame := fun b hb ha => (k.frame b (Nat.lt_of_lt_of_le hb h.size) fun h1 => ha (h.act b hb h1)).trans (h.frame b hb ha) }

theorem tget_map (f : V → V) (hf : f (.c .any) = .c .any) (t : Nat) : (tm : List (Nat × V)) → tget (tm.map fun p => (p.1, f p.2)) t = f (tget tm t)
  | [] => hf.symm
  | (k, v) :: r => by
    rw [List.map_cons, tget_cons, tget_cons, tget_map f hf t r]
    cases Nat.beq k t <;> rfl

theorem looseC_ok {c : C} {v : Value} (h : Rc w I ρ c v) : Rc w I ρ (looseC c) v := by
  cases c <;> exact h
theorem looseCs_ok : {cs : List C} → {vs : List Value} → Rcs w I ρ cs vs → Rcs w I ρ (cs.map looseC) vs
  | [], [], _ => trivial
  | [], _ :: _, h => h.elim
  | _ :: _, [], h => h.elim
  | _ :: _, _ :: _, ⟨h1, h2⟩ => ⟨looseC_ok h1, looseCs_ok h2⟩
theorem looseWs_ok : {cs : List W} → {vs : List Value} → Rws w I ρ cs vs → Rws w I ρ (cs.map looseW) vs
  | [], [], _ => trivial
  | [], _ :: _, h => h.elim
  | _ :: _, [], h => h.elim
  | .c _ :: _, _ :: _, ⟨h1, h2⟩ => ⟨looseC_ok (c := _) h1, looseWs_ok h2⟩
  | .agg _ :: _, _ :: _, ⟨⟨vs, h1, h3⟩, h2⟩ => ⟨⟨vs, h1, looseCs_ok h3⟩, looseWs_ok h2⟩
theorem looseV_ok {x : V} {v : Value} (h : Rv w I ρ x v) : Rv w I ρ (looseV x) v := by
  cases x with
  | c x => exact looseC_ok h
  | agg cs => obtain ⟨vs, h1, h2⟩ := h; exact ⟨vs, h1, looseCs_ok h2⟩
  | tup ws => obtain ⟨vs, h1, h2⟩ := h; exact ⟨vs, h1, looseWs_ok h2⟩

/-- objects said otherwise -/
theorem RelH.swap {ob' : Nat → Option Obj} (h : RelH ob ρ I w) (hs : ∀ i o', ob' i = some o' → ∃ o, ob i = some o ∧ owned o' = owned o ∧ ∀ x, ρ i = some x → Ro w I ρ x o → Ro w I ρ x o') : RelH ob' ρ I w := {
  obj := fun i o' ho => by
    obtain ⟨o, h1, _, h3⟩ := hs i o' ho
    obtain ⟨x, hx, hro⟩ := h.obj i o h1
    exact ⟨x, hx, h3 x hx hro⟩
  blk := h.blk
  disj := fun i j o1 o2 x1 x2 h1 h2 w1 w2 hne => by
    obtain ⟨q1, k1, l1, _⟩ := hs i o1 h1
    obtain ⟨q2, k2, l2, _⟩ := hs j o2 h2
    exact h.disj i j q1 q2 x1 x2 k1 k2 (l1 ▸ w1) (l2 ▸ w2) hne
  actI := fun i o1 x h1 w1 => by
    obtain ⟨q1, k1, l1, _⟩ := hs i o1 h1
    exact h.actI i q1 x k1 (l1 ▸ w1)
  immB := h.immB }

theorem ExtB.swap {base : Nat} {ob' : Nat → Option Obj} (hs : ∀ i o', ob' i = some o' → ∃ o, ob i = some o ∧ owned o' = owned o) : ExtB base ob ρ I w ob' ρ I w :=
  ⟨rfl, rfl, rfl, Nat.le_refl _, fun _ _ _ h => h, fun _ h => h, fun _ _ h => .inl h, fun b _ ⟨i, o', x, h1, h2, h3, h4, h5⟩ => by
    obtain ⟨o, k1, k2⟩ := hs i o' h1
    exact ⟨i, o, x, k1, k2 ▸ h2, h3, h4, h5⟩, fun _ _ _ => rfl⟩

theorem loose_heap {h : Heap} {i : Nat} {o' : Obj} (ho : Heap.at? (h.map fun o => o.map looseO) i = some o') : ∃ o, h.at? i = some o ∧ o' = looseO o := by
  simp only [Heap.at?, List.getElem?_map] at ho ⊢
  cases hq : h[i]? with
  | none => rw [hq] at ho; simp at ho
  | some oo =>
    cases oo with
    | none => rw [hq] at ho; simp at ho
    | some o => rw [hq] at ho; simp at ho; exact ⟨o, by simp, ho.symm⟩
theorem looseO_ok {x : Blk} {o : Obj} (h : Ro w I ρ x o) : Ro w I ρ x (looseO o) := by
  cases o with
  | box cs => obtain ⟨hr, c, T, fz, h1, h2, h3, h4⟩ := h; exact ⟨hr, c, T, fz, h1, h2, h3, looseCs_ok h4⟩
  | _ => exact h
theorem owned_loose (o : Obj) : owned (looseO o) = owned o := by cases o <;> rfl

theorem Rcs_set {c : C} {v : Value} : {cs : List C} → {vs : List Value} → (j : Nat) → Rcs w I ρ cs vs → vs[j]? = some v → Rc w I ρ c v → Rcs w I ρ (cs.set j c) vs
  | [], [], _, _, hv, _ => by simp at hv
  | [], _ :: _, _, h, _, _ => h.elim
  | _ :: _, [], _, h, _, _ => h.elim
  | _ :: _, _ :: _, 0, ⟨_, h2⟩, hv, hc => by simp at hv; subst hv; exact ⟨hc, h2⟩
  | _ :: _, _ :: _, j + 1, ⟨h1, h2⟩, hv, hc => ⟨h1, Rcs_set j h2 (by simpa using hv) hc⟩

theorem tget_filter (q : Nat → Bool) (t : Nat) : (tm : List (Nat × V)) → tget (filterT q tm) t = bif q t then tget tm t else .c .any
  | [] => by cases q t <;> rfl
  | (k, v) :: r => by
    have hf : filterT q ((k, v) :: r) = cond (q k) ((k, v) :: filterT q r) (filterT q r) := rfl
    rw [hf, tget_cons]
    cases hb : Nat.beq k t with
    | true =>
      have := Nat.eq_of_beq_eq_true hb
      subst this
      cases hq : q k with
      | true => simp only [cond_true, tget_cons, hb]
      | false => rw [cond_false, tget_filter q k r, hq]; rfl
    | false =>
      cases hq : q k with
      | true => simp only [cond_true, tget_cons, hb, cond_false, tget_filter q t r]
      | false => rw [cond_false, tget_filter q t r]; rfl

theorem RelS.keep {s : St} (h : RelS n s ρ I a w) (keep : Nat) : RelS n (keepSt keep s) ρ I a w := by
  refine ⟨⟨h.rel.heap, h.rel.defers, h.rel.size, fun t => ?_⟩, h.dom⟩
  simp only [vw, keepSt]
  rw [tget_filter]
  cases bitOf keep t with
  | true => exact h.rel.tm t
  | false => trivial

theorem gc_ok {base : Nat} {s : St} {tm : List (Nat × V)} (hR : RelS n s ρ I a w) (ht : ∀ t, Rv w I ρ (tget tm t) (a.tmps.getD t Go.undef)) :
    ∃ ρ', RelS n (gcSt base s.hp tm s) ρ' I a w ∧ ExtB base s.hp.at? ρ I w (gcSt base s.hp tm s).hp.at? ρ' I w := by
  have triv : ∃ ρ', RelS n s ρ' I a w ∧ ExtB base s.hp.at? ρ I w s.hp.at? ρ' I w := ⟨ρ, hR, ExtB.refl _ _ _ _ _⟩
  unfold gcSt
  split
  · exact triv
  · rename_i L hL
    cases hc : (nodupB L && closedB s.hp L && tm.all (fun p => (idsV p.2).all (hasN L)) && (List.range base).all (fun j => match L[j]? with
      | some q => Nat.beq q j
      | none => false)) with
    | false => exact triv
    | true =>
      simp only [cond_true]
      split
      · rename_i m hm
        simp only [Bool.and_eq_true] at hc
        obtain ⟨⟨⟨hnd, hcl⟩, htm⟩, hbase⟩ := hc
        have hm' := objsAt_spec hm
        have hH := callee_heap (h := s.hp) (ids := L) (m := m) hR.rel.heap (nodupB_ok hnd) (fun _ _ _ h => h) (fun id o hid ho i hi => by
          have := List.all_eq_true.1 hcl id hid
          rw [ho] at this
          have := List.all_eq_true.1 this i hi
          simpa using this) hm'
        have hat : Heap.at? (m.map some) = obOf m := by
          funext i
          simp only [Heap.at?, obOf, List.getElem?_map]
          cases m[i]? <;> rfl
        have hg : ∀ id, id ∈ L → ∀ x, ρ id = some x → rhoAt ρ L (posOf id L 0) = some x := fun id hid x hx => by
          have := (posOf_spec id L 0 hid).2
          rw [Nat.sub_zero] at this
          simp [rhoAt, this, hx]
        refine ⟨rhoAt ρ L, ⟨⟨?_, hR.rel.defers, hR.rel.size, fun t => ?_⟩, fun id x hx => ?_⟩, ⟨rfl, rfl, rfl, Nat.le_refl _, fun id x hid hx => ?_, fun _ h => h, fun _ _ h => .inl h, ?_, fun _ _ _ => rfl⟩⟩
        · simp only [vw]; rw [hat]; exact hH
        · simp only [vw]
          rw [tget_map (renV fun id => posOf id L 0) rfl]
          refine Rv.ren (fun id hid x hx => hg id ?_ x hx) (ht t)
          have key : ∀ tm : List (Nat × V), (tm.all fun p => (idsV p.2).all (hasN L)) = true → ∀ id, id ∈ idsV (tget tm t) → id ∈ L := by
            intro tm
            induction tm with
            | nil => intro _ id h; simp [tget_nil, idsV, idsC] at h
            | cons p r ih =>
              intro h id hid
              obtain ⟨k, v⟩ := p
              simp only [List.all_cons, Bool.and_eq_true] at h
              rw [tget_cons] at hid
              cases hb : Nat.beq k t with
              | true => rw [hb] at hid; have := List.all_eq_true.1 h.1 id hid; simpa using this
              | false => rw [hb] at hid; exact ih h.2 id hid
          exact key tm htm id hid
        · simp only [rhoAt, Option.bind_eq_some_iff] at hx
          obtain ⟨q, hq, _⟩ := hx
          have := (List.getElem?_eq_some_iff.1 hq).1
          simp [hm'.1, this]
        · have := List.all_eq_true.1 hbase id (by simp [hid])
          split at this
          · rename_i q hq
            have := Nat.eq_of_beq_eq_true this
            subst this
            simp [rhoAt, hq, hx]
          · cases this
        · rintro b _ ⟨j, o', x, h1, h2, h3, h4, h5⟩
          simp only at h1
          rw [hat] at h1
          have hlt : j < m.length := (List.getElem?_eq_some_iff.1 h1).1
          rw [hm'.1] at hlt
          have hid : L[j]? = some L[j] := List.getElem?_eq_getElem hlt
          obtain ⟨o, k1, k2⟩ := hm'.2 j _ hid
          unfold obOf at h1
          rw [k2] at h1
          cases h1
          rw [owned_ren] at h2
          simp only [rhoAt, hid, Option.bind_some] at h3
          exact ⟨_, o, x, k1, h2, h3, h4, h5⟩
      · exact triv

theorem nrm1_ok {base : Nat} {s s' : St} : (x : Nrm) → (nrm1 base s x).run = some s' → RelS n s ρ I a w → ∃ ρ', RelS n s' ρ' I a w ∧ ExtB base s.hp.at? ρ I w s'.hp.at? ρ' I w
  | .fix t r, he, hR => by
    simp only [nrm1] at he
    split at he
    · rename_i k e hq
      obtain ⟨hd, h⟩ := hyp_run he
      have hd : e = r s := by simpa using hd
      cases leaf_run h
      refine ⟨ρ, ⟨⟨hR.rel.heap, hR.rel.defers, hR.rel.size, fun t' => ?_⟩, hR.dom⟩, ExtB.refl _ _ _ _ _⟩
      have := hR.rel.tm t'
      simp only [vw] at this ⊢
      rw [tget_tset]
      by_cases e' : t' = t
      · subst e'
        rw [if_pos rfl, ← hd]
        rw [hq] at this
        exact this
      · rw [if_neg e']; exact this
    · cases leaf_run he
      exact ⟨ρ, hR, ExtB.refl _ _ _ _ _⟩
  | .loose, he, hR => by
    cases leaf_run he
    refine ⟨ρ, ⟨⟨?_, hR.rel.defers, hR.rel.size, fun t => ?_⟩, fun id x hx => by simpa using hR.dom id x hx⟩, ExtB.swap fun i o' ho => ?_⟩
    · refine hR.rel.heap.swap fun i o' ho => ?_
      obtain ⟨o, h1, rfl⟩ := loose_heap ho
      exact ⟨o, h1, owned_loose o, fun x _ h => looseO_ok h⟩
    · simp only [vw]
      rw [tget_map looseV rfl]
      exact looseV_ok (hR.rel.tm t)
    · obtain ⟨o, h1, rfl⟩ := loose_heap ho
      exact ⟨o, h1, owned_loose o⟩
  | .keep m, he, hR => by
    cases leaf_run he
    exact ⟨ρ, hR.keep m, ExtB.refl _ _ _ _ _⟩
  | .gc, he, hR => by
    cases leaf_run he
    refine gc_ok hR fun t => ?_
    rw [tget_map (liveV s.hp) rfl]
    have := hR.rel.tm t
    simp only [vw] at this
    unfold liveV
    cases (idsV (tget s.tm t)).all fun i => (s.hp.at? i).isSome with
    | true => exact this
    | false => trivial
  | .row t cs, he, hR => by
    simp only [nrm1] at he
    split at he
    · rename_i hq
      cases leaf_run he
      have hn : ρ s.hp.length = none := by
        cases h : ρ s.hp.length with
        | none => rfl
        | some y => exact absurd (hR.dom _ y h) (Nat.lt_irrefl _)
      obtain ⟨hE, hH⟩ := empty_step (nid := s.hp.length) (cs := cs) (upd := []) hR.rel.heap hn (fun _ _ h => h) 0
      have hat : Heap.at? (s.hp ++ [some (.row cs [] .own)]) = newO (updO s.hp.at? []) s.hp.length [.row cs [] .own] := at_append s.hp [.row cs [] .own]
      simp only [vw] at hE hH
      rw [← hat] at hE hH
      refine ⟨_, ⟨⟨hH, hR.rel.defers, hR.rel.size, fun t' => ?_⟩, fun id x hx => ?_⟩, hE.toB _⟩
      · have := (hR.rel.tm t').mono (fun _ h => h) (fun _ _ => rfl) hE.rho
        simp only [vw] at this ⊢
        rw [tget_tset]
        by_cases e' : t' = t
        · subst e'
          rw [if_pos rfl]
          rw [hq] at this
          exact ⟨_, none, 0, if_pos rfl, rfl, this, Nat.le_refl _, fun _ => rfl, (fun ad h => by cases h)⟩
        · rw [if_neg e']; exact this
      · by_cases e : id = s.hp.length
        · subst e; simp
        · rw [if_neg e] at hx; have := hR.dom id x hx; simp; omega
    · cases leaf_run he
      exact ⟨ρ, hR, ExtB.refl _ _ _ _ _⟩
  | .rowb id off cs, he, hR => by
    simp only [nrm1] at he
    split at he
    · rename_i c hbox
      split at he
      · rename_i hq
        cases leaf_run he
        have hn : ρ s.hp.length = none := by
          cases h : ρ s.hp.length with
          | none => rfl
          | some y => exact absurd (hR.dom _ y h) (Nat.lt_irrefl _)
        obtain ⟨hE, hH⟩ := empty_step (nid := s.hp.length) (cs := cs) (upd := []) hR.rel.heap hn (fun _ _ h => h) 0
        have hlt : id < s.hp.length := by
          rcases Nat.lt_or_ge id s.hp.length with h | h
          · exact h
          · simp [Heap.at?, List.getElem?_eq_none h] at hbox
        have hat : Heap.at? (s.hp ++ [some (.row cs [] .own)]) = newO (updO s.hp.at? []) s.hp.length [.row cs [] .own] := at_append s.hp [.row cs [] .own]
        simp only [vw] at hE hH
        rw [← hat] at hE hH
        have hat2 : ∀ i o', Heap.at? (s.hp.set id (some (.box (c.set off (.rw s.hp.length cs.len false)))) ++ [some (.row cs [] .own)]) i = some o' →
            (i = id ∧ o' = .box (c.set off (.rw s.hp.length cs.len false))) ∨ (i ≠ id ∧ Heap.at? (s.hp ++ [some (.row cs [] .own)]) i = some o') := by
          intro i o' h
          simp only [Heap.at?, List.getElem?_append, List.length_set, List.getElem?_set] at h ⊢
          by_cases e : i = id
          · subst e
            simp [hlt] at h
            exact .inl ⟨rfl, h.symm⟩
          · right
            refine ⟨e, ?_⟩
            have e' : ¬ id = i := fun h => e h.symm
            simpa [e'] using h
        have hold : Heap.at? (s.hp ++ [some (.row cs [] .own)]) id = some (.box c) := by
          rw [hat, newO_one]
          show (if id = s.hp.length then _ else s.hp.at? id) = _
          rw [if_neg (by omega)]
          exact hbox
        refine ⟨_, ⟨⟨hH.swap fun i o' ho => ?_, hR.rel.defers, hR.rel.size, fun t' => ?_⟩, fun id x hx => ?_⟩, (hE.toB _).trans (ExtB.swap fun i o' ho => ?_)⟩
        · rcases hat2 i o' ho with ⟨rfl, rfl⟩ | ⟨hne, h⟩
          · refine ⟨_, hold, rfl, fun x hx hro => ?_⟩
            obtain ⟨hr, cc, T, fz, h1, h2, h3, h4⟩ := hro
            refine ⟨hr, cc, T, fz, h1, h2, h3, ?_⟩
            obtain ⟨v, hv, hcv⟩ := Rcs_get h4 off _ hq
            exact Rcs_set off h4 hv ⟨_, none, 0, if_pos rfl, rfl, hcv, Nat.le_refl _, fun _ => rfl, (fun ad h => by cases h)⟩
          · exact ⟨o', h, rfl, fun _ _ h => h⟩
        · exact (hR.rel.tm t').mono (fun _ h => h) (fun _ _ => rfl) hE.rho
        · by_cases e : id = s.hp.length
          · subst e; simp
          · rw [if_neg e] at hx; have := hR.dom id x hx; simp; omega
        · rcases hat2 i o' ho with ⟨rfl, rfl⟩ | ⟨hne, h⟩
          · exact ⟨_, hold, rfl⟩
          · exact ⟨o', h, rfl⟩
      · cases leaf_run he
        exact ⟨ρ, hR, ExtB.refl _ _ _ _ _⟩
    · cases leaf_run he
      exact ⟨ρ, hR, ExtB.refl _ _ _ _ _⟩

theorem nrmAll_ok {base id : Nat} : (l : List (Nat × Nrm)) → (s s' : St) → (nrmAll base id l s).run = some s' → ∀ {ρ : Rho}, RelS n s ρ I a w → ∃ ρ', RelS n s' ρ' I a w ∧ ExtB base s.hp.at? ρ I w s'.hp.at? ρ' I w
  | [], s, s', he, ρ, hR => by
    cases leaf_run he
    exact ⟨ρ, hR, ExtB.refl _ _ _ _ _⟩
  | (i, x) :: l, s, s', he, ρ, hR => by
    simp only [nrmAll] at he
    cases hb : Nat.beq i id with
    | false => rw [hb] at he; exact nrmAll_ok l s s' he hR
    | true =>
      rw [hb] at he
      obtain ⟨s1, h1, h2⟩ := bind_run he
      obtain ⟨ρ1, k1, k2⟩ := nrm1_ok x h1 hR
      obtain ⟨ρ2, k3, k4⟩ := nrmAll_ok l s1 s' h2 k1
      exact ⟨ρ2, k3, k2.trans k4⟩
end
end Go.Eng
