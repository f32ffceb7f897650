/- The engine, part 11: rows as lists of cells; relabelled rows; stores. -/
import Derived.Test.YtnngcneobkfijaaE10
set_option linter.unusedSimpArgs false
set_option linter.unusedVariables false
namespace Go.Eng
section
variable {P : Program} {w : World} {I : Nat → Prop} {ρ : Rho} {ob : Nat → Option Obj}

theorem Rd_of_cellD : {s : Sh} → {x : Dat s} → {v : Value} → Rc w I ρ (cellD s x) v → Rd w I s x v
  | .bool, _, _, h => h
  | .int _, _, _, h => h
  | .str, _, _, h => h
  | .lst _, _, _, h => h

theorem Rt_of_cells {b : Nat} : (cs : Shs) → (t : Tup cs) → (off : Nat) → (vs : List Value) → Rcs w I ρ (cellsT cs t) vs → (∀ j v, vs[j]? = some v → w.cell? ⟨b, off + j, none⟩ = some v) → Rt w I cs t b off
  | .nil, _, _, _, _, _ => trivial
  | .cons s r, t, off, [], h, _ => h.elim
  | .cons s r, t, off, v :: vs, ⟨h1, h2⟩, hc => ⟨⟨v, by simpa using hc 0 v rfl, Rd_of_cellD h1⟩, Rt_of_cells r t.2 (off + 1) vs h2 fun j u hu => by
      have := hc (j + 1) u (by simpa using hu)
      rwa [show off + 1 + j = off + (j + 1) by omega]⟩

def flatT (cs : Shs) (l : List (Tup cs)) : List C := l.flatMap (cellsT cs)
theorem flatT_length {cs : Shs} : (l : List (Tup cs)) → (flatT cs l).length = l.length * cs.len
  | [] => by simp [flatT]
  | t :: l => by
    have := flatT_length l
    simp only [flatT, List.flatMap_cons, List.length_append, cellsT_length, List.length_cons, Nat.add_mul, Nat.one_mul] at this ⊢
    omega

theorem rows_cells {cs : Shs} {b : Nat} : (l : List (Tup cs)) → (off : Nat) → (∀ i t, l[i]? = some t → Rt w I cs t b (off + i * cs.len)) →
    ∃ vs : List Value, vs.length = l.length * cs.len ∧ (∀ j v, vs[j]? = some v → w.cell? ⟨b, off + j, none⟩ = some v) ∧ Rcs w I ρ (flatT cs l) vs
  | [], off, _ => ⟨[], by simp, by simp, trivial⟩
  | t :: l, off, h => by
    obtain ⟨vs, h1, h2, h3⟩ := Rt_cells (ρ := ρ) cs t off (by simpa using h 0 t rfl)
    obtain ⟨us, k1, k2, k3⟩ := rows_cells l (off + cs.len) (fun i t' hi => by
      have := h (i + 1) t' (by simpa using hi)
      rwa [show off + (i + 1) * cs.len = off + cs.len + i * cs.len by rw [Nat.add_mul]; omega] at this)
    refine ⟨vs ++ us, by simp [h1, k1, Nat.add_mul]; omega, ?_, Rcs_append h3 k3⟩
    intro j v hj
    rw [List.getElem?_append] at hj
    split at hj
    · exact h2 j v hj
    · rename_i hlt
      have := k2 _ v hj
      rwa [show off + cs.len + (j - vs.length) = off + j by omega] at this

theorem cells_rows {cs : Shs} {b : Nat} : (l : List (Tup cs)) → (off : Nat) → (vs : List Value) → Rcs w I ρ (flatT cs l) vs → (∀ j v, vs[j]? = some v → w.cell? ⟨b, off + j, none⟩ = some v) → ∀ i t, l[i]? = some t → Rt w I cs t b (off + i * cs.len)
  | [], _, _, _, _, i, t, h => by simp at h
  | x :: l, off, vs, hr, hc, i, t, h => by
    have hl := Rcs_length hr
    simp only [flatT, List.flatMap_cons] at hr
    have h1 : Rcs w I ρ (cellsT cs x) (vs.take cs.len) := by
      have := Rcs_take cs.len hr
      rwa [List.take_append_of_le_length (by rw [cellsT_length]; exact Nat.le_refl _), List.take_of_length_le (by rw [cellsT_length]; exact Nat.le_refl _)] at this
    have h2 : Rcs w I ρ (flatT cs l) (vs.drop cs.len) := by
      have := Rcs_drop cs.len hr
      rwa [List.drop_append_of_le_length (by rw [cellsT_length]; exact Nat.le_refl _), List.drop_of_length_le (by rw [cellsT_length]; exact Nat.le_refl _), List.nil_append] at this
    cases i with
    | zero =>
      simp at h; subst h
      rw [Nat.zero_mul, Nat.add_zero]
      refine Rt_of_cells cs _ off _ h1 fun j v hj => ?_
      rw [List.getElem?_take] at hj
      split at hj
      · exact hc j v hj
      · cases hj
    | succ i =>
      simp at h
      have := cells_rows l (off + cs.len) (vs.drop cs.len) h2 (fun j v hj => by
        rw [List.getElem?_drop] at hj
        have := hc _ v hj
        rwa [Nat.add_assoc]) i t h
      rwa [show off + (i + 1) * cs.len = off + cs.len + i * cs.len by rw [Nat.add_mul]; omega]

theorem cellD_one : (s : Sh) → (x : Dat s) → (v : Value) → Rc w I ρ (cellD s x) v → v.oneCell' = true
  | .bool, _, _, h => by have h : _ = _ := h; subst h; rfl
  | .int _, _, _, h => by have h : _ = _ := h; subst h; rfl
  | .str, _, _, h => by have h : _ = _ := h; subst h; rfl
  | .lst _, _, _, ⟨_, _, h, _⟩ => by subst h; rfl
theorem cellsT_one : (cs : Shs) → (t : Tup cs) → (vs : List Value) → Rcs w I ρ (cellsT cs t) vs → ∀ v ∈ vs, v.oneCell' = true
  | .nil, _, [], _ => by simp
  | .nil, _, _ :: _, h => h.elim
  | .cons s r, _, [], h => h.elim
  | .cons s r, t, v :: vs, ⟨h1, h2⟩ => by
    intro u hu
    simp at hu
    rcases hu with rfl | hu
    · exact cellD_one s _ _ h1
    · exact cellsT_one r t.2 vs h2 u hu
theorem flatT_one {cs : Shs} : (l : List (Tup cs)) → (vs : List Value) → Rcs w I ρ (flatT cs l) vs → ∀ v ∈ vs, v.oneCell' = true
  | [], [], _ => by simp
  | [], _ :: _, h => h.elim
  | t :: l, vs, h => by
    simp only [flatT, List.flatMap_cons] at h
    have h1 := Rcs_take cs.len h
    rw [List.take_append_of_le_length (by rw [cellsT_length]; exact Nat.le_refl _), List.take_of_length_le (by rw [cellsT_length]; exact Nat.le_refl _)] at h1
    have h2 := Rcs_drop cs.len h
    rw [List.drop_append_of_le_length (by rw [cellsT_length]; exact Nat.le_refl _), List.drop_of_length_le (by rw [cellsT_length]; exact Nat.le_refl _), List.nil_append] at h2
    intro u hu
    rw [← List.take_append_drop cs.len vs] at hu
    rcases List.mem_append.1 hu with hu | hu
    · exact cellsT_one cs t _ h1 u hu
    · exact flatT_one l _ h2 u hu

/-- The row of one label goes on under another. -/
theorem relabel_step {w' : World} {id nid : Nat} {o o' : Obj} {x y : Blk} (hH : RelH ob ρ I w) (ho : ob id = some o) (hown : owned o = true) (hx : ρ id = some x) (hn : ρ nid = none) (hreal : x.real = true) (hyr : y.real = true) (hyb : y.b = x.b) (hown' : owned o' = true)
    (hos : w'.os = w.os) (htape : w'.tape = w.tape) (hout : w'.output = w.output) (hsz : w'.heap.size = w.heap.size) (hold : ∀ b, b ≠ x.b → w'.heap[b]? = w.heap[b]?) (hro : Ro w' I (fun i => if i = nid then some y else ρ i) y o') :
    Ext ob ρ I w (newO (updO ob [(id, none)]) nid [o']) (fun i => if i = nid then some y else ρ i) I w' ∧ RelH (newO (updO ob [(id, none)]) nid [o']) (fun i => if i = nid then some y else ρ i) I w' := by
  have hne : id ≠ nid := fun e => by rw [e, hn] at hx; cases hx
  have hI : ∀ b, I b → w'.heap[b]? = w.heap[b]? := fun b hb => hold b fun e => hH.actI id o x ho hown hx hreal (e ▸ hb)
  have hρ : ∀ i z, ρ i = some z → (if i = nid then some y else ρ i) = some z := fun i z h => by
    by_cases e : i = nid
    · subst e; rw [hn] at h; cases h
    · rw [if_neg e]; exact h
  rw [newO_one]
  simp only [updO]
  have from_old : ∀ i o1, (if i = nid then some o' else if i = id then none else ob i) = some o1 → i ≠ nid → i ≠ id ∧ ob i = some o1 := by
    intro i o1 h hi
    rw [if_neg hi] at h
    split at h
    · cases h
    · rename_i hid; exact ⟨hid, h⟩
  constructor
  · refine ⟨hos, htape, hout, by omega, hρ, fun _ h => h, fun _ _ h => .inl h, ?_, ?_⟩
    · rintro b _ ⟨i, o1, z, h1, h2, h3, h4, h5⟩
      by_cases e : i = nid
      · subst e
        simp only [if_true, Option.some.injEq] at h3
        subst h3
        exact ⟨id, o, x, ho, hown, hx, hreal, hyb ▸ h5⟩
      · obtain ⟨_, k⟩ := from_old i o1 h1 e
        simp only [e, if_false] at h3
        exact ⟨i, o1, z, k, h2, h3, h4, h5⟩
    · intro b _ hna
      exact hold b fun e => hna ⟨id, o, x, ho, hown, hx, hreal, e.symm⟩
  · refine ⟨?_, ?_, ?_, ?_, fun b hb => by have := hH.immB b hb; omega⟩
    · intro i o1 h1
      by_cases e : i = nid
      · subst e
        simp only [if_true, Option.some.injEq] at h1 ⊢
        subst h1
        exact ⟨y, rfl, hro⟩
      · obtain ⟨hid, k⟩ := from_old i o1 h1 e
        obtain ⟨z, h2, h3⟩ := hH.obj i o1 k
        refine ⟨z, hρ i z h2, h3.mono (fun _ h => h) hI hρ fun hr => hold _ (hH.apart i id o1 o z x k ho hown hid h2 hx hr hreal)⟩
    · intro i z h1 h2
      by_cases e : i = nid
      · subst e; simp only [if_true, Option.some.injEq] at h1; subst h1
        have := hH.blk id x hx hreal; omega
      · simp only [e, if_false] at h1; have := hH.blk i z h1 h2; omega
    · intro i i' o1 o2 x1 x2 h1 h2 w1 w2 hne' h3 h4 h5 h6
      by_cases e : i = nid
      · have e' : i' ≠ nid := fun h => hne' (e.trans h.symm)
        obtain ⟨hid, k⟩ := from_old i' o2 h2 e'
        simp only [e, e', if_true, if_false, Option.some.injEq] at h3 h4
        subst h3
        rw [hyb]
        exact hH.disj id i' o o2 x x2 ho k hown w2 (fun h => hid h.symm) hx h4 hreal h6
      · obtain ⟨hid, k⟩ := from_old i o1 h1 e
        simp only [e, if_false] at h3
        by_cases e' : i' = nid
        · simp only [e', if_true, Option.some.injEq] at h4
          subst h4
          rw [hyb]
          exact hH.disj i id o1 o x1 x k ho w1 hown hid h3 hx h5 hreal
        · obtain ⟨hid', k'⟩ := from_old i' o2 h2 e'
          simp only [e', if_false] at h4
          exact hH.disj i i' o1 o2 x1 x2 k k' w1 w2 hne' h3 h4 h5 h6
    · intro i o1 z h1 h2 h3 h4
      by_cases e : i = nid
      · subst e
        simp only [if_true, Option.some.injEq] at h3
        subst h3
        rw [hyb]
        exact hH.actI id o x ho hown hx hreal
      · obtain ⟨_, k⟩ := from_old i o1 h1 e
        simp only [e, if_false] at h3
        exact hH.actI i o1 z k h2 h3 h4

/-- A label that names no block: an empty row. -/
theorem empty_step {nid : Nat} {cs : Shs} {upd : List (Nat × Option Obj)} (hH : RelH ob ρ I w) (hn : ρ nid = none) (hu : ∀ i o, updO ob upd i = some o → ob i = some o) (b0 : Nat) :
    Ext ob ρ I w (newO (updO ob upd) nid [.row cs [] .own]) (fun i => if i = nid then some ⟨b0, 0, 0, cs.len, false⟩ else ρ i) I w ∧ RelH (newO (updO ob upd) nid [.row cs [] .own]) (fun i => if i = nid then some ⟨b0, 0, 0, cs.len, false⟩ else ρ i) I w := by
  have hρ : ∀ i z, ρ i = some z → (if i = nid then some (⟨b0, 0, 0, cs.len, false⟩ : Blk) else ρ i) = some z := fun i z h => by
    by_cases e : i = nid
    · subst e; rw [hn] at h; cases h
    · rw [if_neg e]; exact h
  have hS := hH.sub hu
  rw [newO_one]
  constructor
  · refine ⟨rfl, rfl, rfl, Nat.le_refl _, hρ, fun _ h => h, fun _ _ h => .inl h, ?_, fun _ _ _ => rfl⟩
    rintro b _ ⟨i, o1, z, h1, h2, h3, h4, h5⟩
    by_cases e : i = nid
    · simp only [e, if_true, Option.some.injEq] at h3; subst h3; cases h4
    · simp only [e, if_false] at h1 h3; exact ⟨i, o1, z, hu i o1 h1, h2, h3, h4, h5⟩
  · refine ⟨?_, ?_, ?_, ?_, hH.immB⟩
    · intro i o1 h1
      by_cases e : i = nid
      · simp only [e, if_true, Option.some.injEq] at h1 ⊢; subst h1
        exact ⟨_, rfl, rfl, rfl, fun _ => rfl, fun h => by cases h⟩
      · simp only [e, if_false] at h1 ⊢
        obtain ⟨z, h2, h3⟩ := hS.obj i o1 h1
        exact ⟨z, h2, h3.mono (fun _ h => h) (fun _ _ => rfl) hρ fun _ => rfl⟩
    · intro i z h1 h2
      by_cases e : i = nid
      · simp only [e, if_true, Option.some.injEq] at h1; subst h1; cases h2
      · simp only [e, if_false] at h1; exact hH.blk i z h1 h2
    · intro i i' o1 o2 x1 x2 h1 h2 w1 w2 hne h3 h4 h5 h6
      by_cases e : i = nid
      · simp only [e, if_true, Option.some.injEq] at h3; subst h3; cases h5
      · by_cases e' : i' = nid
        · simp only [e', if_true, Option.some.injEq] at h4; subst h4; cases h6
        · simp only [e, e', if_false] at h1 h2 h3 h4
          exact hS.disj i i' o1 o2 x1 x2 h1 h2 w1 w2 hne h3 h4 h5 h6
    · intro i o1 z h1 h2 h3 h4
      by_cases e : i = nid
      · simp only [e, if_true, Option.some.injEq] at h3; subst h3; cases h4
      · simp only [e, if_false] at h1 h3; exact hS.actI i o1 z h1 h2 h3 h4

variable {n : Nat} {o : Oper} {f : Vw} {a : Act} {nid : Nat} {h : Heap}

theorem putT_cells : (cs : Shs) → (t : Tup cs) → (j : Nat) → (x : C) → (t' : Tup cs) → putT cs t j x = some t' → ∀ {vs : List Value} {v : Value}, Rcs w I ρ (cellsT cs t) vs → Rc w I ρ x v → Rcs w I ρ (cellsT cs t') (vs.set j v) ∧ j < cs.len
  | .nil, _, _, _, _, h, _, _, _, _ => by simp [putT] at h
  | .cons s r, t, 0, x, t', h, [], _, hr, _ => hr.elim
  | .cons s r, t, 0, x, t', h, u :: vs, v, ⟨h1, h2⟩, hx => by
    simp only [putT] at h
    split at h
    · rename_i y hy
      cases h
      exact ⟨⟨cellD_ok s y v (datC_ok hy hx), h2⟩, by simp [Shs.len]⟩
    · cases h
  | .cons s r, t, j + 1, x, t', h, [], _, hr, _ => hr.elim
  | .cons s r, t, j + 1, x, t', h, u :: vs, v, ⟨h1, h2⟩, hx => by
    simp only [putT] at h
    split at h
    · rename_i y hy
      cases h
      obtain ⟨k1, k2⟩ := putT_cells r t.2 j x y hy h2 hx
      exact ⟨⟨h1, k1⟩, by simp [Shs.len, k2]⟩
    · cases h

theorem putsT_cells (cs : Shs) : (xs : List C) → (t : Tup cs) → (j : Nat) → (t' : Tup cs) → putsT cs t j xs = some t' → ∀ {vs us : List Value}, Rcs w I ρ (cellsT cs t) vs → Rcs w I ρ xs us → Rcs w I ρ (cellsT cs t') (spliceV vs j us)
  | [], t, j, t', h, vs, [], hr, _ => by
    simp [putsT] at h; subst h
    simpa [spliceV] using hr
  | [], _, _, _, _, _, _ :: _, _, h => h.elim
  | _ :: _, _, _, _, _, _, [], _, h => h.elim
  | x :: xs, t, j, t', h, vs, u :: us, hr, ⟨h1, h2⟩ => by
    simp only [putsT] at h
    split at h
    · rename_i t1 ht
      obtain ⟨k1, k2⟩ := putT_cells cs t j x t1 ht hr h1
      have hl := Rcs_length hr
      rw [cellsT_length] at hl
      have := putsT_cells cs xs t1 (j + 1) t' h k1 h2
      have hj : j < vs.length := by rw [← hl]; exact k2
      have e : spliceV (vs.set j u) (j + 1) us = spliceV vs j (u :: us) := by
        unfold spliceV
        simp only [List.length_cons]
        rw [List.take_add_one, List.take_set_of_le (Nat.le_refl _), List.drop_set_of_lt (show j < j + 1 + us.length by omega)]
        rw [show j + 1 + us.length = j + (us.length + 1) by omega]
        simp [hj]
      rwa [e] at this
    · cases h

theorem storeBox_goes (hR : RelF n f ρ I a w) (hm : ∀ id o, h.at? id = some o → f.ob id = some o) (hd : ∀ d, o.dst = some d → d < n) {t : TypeId} {x y : Operand} {vx vy : V} (hx : Rv w I ρ vx (a.eval x)) (hy : Rv w I ρ vy (a.eval y))
    (hop : o.op = .store t x y) {out : Out} (he : (storeO P h t vx vy).run = some out) : OpGoes P n o f ρ I a w nid out := by
  unfold storeO at he
  split at he
  · rename_i _ id off
    split at he
    · rename_i cs hat
      split at he
      · rename_i hc
        cases leaf_run he
        obtain ⟨i, hi⟩ := Option.isSome_iff_exists.1 hc.2.2.2.2
        obtain ⟨z, hz, hreal, hvx⟩ := hx
        obtain ⟨z', hz', hro⟩ := hR.heap.obj id _ (hm _ _ hat)
        have hzz : z' = z := by rw [hz] at hz'; exact (Option.some.inj hz').symm
        subst hzz
        have hro' := hro
        obtain ⟨_, c, T, fz, h1, h2, h3, h4⟩ := hro'
        have hcl := Rcs_length h4
        have hyc := sane_cells hc.2.2.1 hy
        have hyl := Rcs_length hyc
        simp only [Array.length_toList] at hcl hyl
        have hfit : off + (a.eval y).cells.toList.length ≤ c.size := by simp; omega
        have hone : ∀ u ∈ (a.eval y).cells.toList, u.oneCell' = true := by
          have : ∀ (ds : List C) (us : List Value), ds.all leafC = true → Rcs w I ρ ds us → ∀ u ∈ us, u.oneCell' = true := by
            intro ds
            induction ds with
            | nil => intro us _ hr; cases us with
              | nil => simp
              | cons _ _ => exact hr.elim
            | cons d ds ih => intro us hl hr; cases us with
              | nil => exact hr.elim
              | cons u us =>
                simp only [List.all_cons, Bool.and_eq_true] at hl
                intro q hq
                simp at hq
                rcases hq with rfl | hq
                · exact leaf_one hl.1 hr.1
                · exact ih us hl.2 hr.2 q hq
          exact this _ _ hc.2.2.2.1 hyc
        have hst := run_store_block (P := P) h1 h3 hfit hone
        obtain ⟨k1, k2, k3, k4, k5, k6⟩ := heap_setCells (fz := fz) (a.eval y).cells.toList off w c h1 hfit
        have hkeep : ∀ b, I b → (w.setCells z'.b off (a.eval y).cells.toList).heap[b]? = w.heap[b]? := fun b hb => k2 b fun e => hR.heap.actI id _ z' (hm _ _ hat) rfl hz hreal (e ▸ hb)
        have hw := write_step (w' := w.setCells z'.b off (a.eval y).cells.toList) (o' := .box (spliceL cs off vy.cells)) hR.heap (hm _ _ hat) rfl hz hreal rfl k4 k5 k6 k3 k2
          ⟨hreal, _, T, fz, k1, by simp [spliceV, h2]; simp at hfit; omega, by
            have e : (spliceV c.toList off (a.eval y).cells.toList).toArray.size = c.size := by simp [spliceV]; simp at hfit; omega
            rw [e]; exact h3, by
            have := splice_ok h4 hyc off
            simpa using this.mono (fun _ h => h) hkeep (fun _ _ h => h)⟩
        refine OpGoes.of (w' := w.setCells z'.b off (a.eval y).cells.toList) (cv := Go.undef) (ρ' := ρ) (I' := I) hR hd (.inr ⟨?_, rfl⟩) ?_ (fun id x h => .inl h) ?_ rfl
        · have : ¬ ((a.eval y).cells.size ≠ tsz P t) := by simp; omega
          simp only [execOp, hop, hvx, Instr.storeAt, Instr.sureAddr, Sem.run_bind, Sem.run_pure, Result.andThen_ok, storeVar, run_sizeOf' hi, this, if_false, hst]
        · simp only [updO, newO_nil]; exact hw.1
        · simp only [updO, newO_nil]; exact hw.2
      · exact (fail_run he).elim
    · exact (fail_run he).elim
  · rename_i _ id e j
    split at he
    · rename_i cs l hat
      split at he
      · rename_i hc
        split at he
        · rename_i x hput
          split at he
          · rename_i hall
            obtain ⟨hlt, he⟩ := node_fail he
            cases leaf_run he
            simp only [decide_eq_true_eq] at hlt
            obtain ⟨i, hi⟩ := Option.isSome_iff_exists.1 hc.2.2.2
            obtain ⟨z, hz, hreal, hvx⟩ := hx
            obtain ⟨hE, hH⟩ := shut_step (h := h) vy.cells hR.heap hm
            have hnot : ¬ shutS h vy.cells id := by
              rintro ⟨⟨c, hcm, hci⟩, a', l', hrow⟩
              have hmem : (id, some (Obj.row a' l' .imm)) ∈ shutIds h vy.cells := by
                have : ∀ (ds : List C), c ∈ ds → (id, some (Obj.row a' l' .imm)) ∈ shutIds h ds := by
                  intro ds
                  induction ds with
                  | nil => intro h; cases h
                  | cons d ds ih =>
                    intro hmem
                    rcases List.mem_cons.1 hmem with rfl | hmem
                    · cases c <;> simp [idOf] at hci <;> subst hci <;> simp [shutIds, hrow]
                    · have := ih hmem
                      cases d <;> first | exact this | (simp only [shutIds]; split <;> first | exact List.mem_cons_of_mem _ this | exact this)
                exact this _ hcm
              have := List.all_eq_true.1 hall _ hmem
              simp at this
            have hob1 : updO f.ob (shutIds h vy.cells) id = some (.row cs l .own) := by
              rw [(updO_shut vy.cells f.ob id).1 hnot]; exact hm _ _ hat
            obtain ⟨z', hz', hro⟩ := hH.obj id _ hob1
            have hzz : z' = z := by rw [hz] at hz'; exact (Option.some.inj hz').symm
            subst hzz
            obtain ⟨q1, q2, q3, q4⟩ := hro
            obtain ⟨c, T, fz, h1, h2, h3, h4, h5, _⟩ := q4 hreal
            have hyc := conv_all (h := h) vy.cells hR.heap hm (fun c hc => hc) (sane_cells hc.2.2.1 hy)
            have hyl := Rcs_length hyc
            simp only [List.length_map, Array.length_toList] at hyl
            have hee : e * cs.len + cs.len ≤ c.size := by
              have : (e + 1) * cs.len ≤ l.length * cs.len := Nat.mul_le_mul_right _ (by omega)
              rw [Nat.add_mul, Nat.one_mul] at this
              omega
            have hfit : e * cs.len + j + (a.eval y).cells.toList.length ≤ c.size := by simp; omega
            obtain ⟨vs, m1, m2, m3⟩ := Rt_cells (ρ := ρ) cs _ _ (h4 e _ (getD_get (d := dTup cs) hlt))
            have hone : ∀ u ∈ (a.eval y).cells.toList, u.oneCell' = true := by
              have hput' := putsT_cells cs _ _ _ _ hput m3 hyc
              have hone' := cellsT_one cs x _ hput'
              intro u hu
              refine hone' u ?_
              unfold spliceV
              simp only [List.mem_append]
              exact .inl (.inr hu)
            have hst := run_store_block (P := P) h1 (h5 rfl) hfit hone
            obtain ⟨k1, k2, k3, k4, k5, k6⟩ := heap_setCells (fz := fz) (a.eval y).cells.toList (e * cs.len + j) w c h1 hfit
            have hkeep : ∀ b, shutI I ρ (shutS h vy.cells) b → (w.setCells z'.b (e * cs.len + j) (a.eval y).cells.toList).heap[b]? = w.heap[b]? := fun b hb => k2 b fun e' => hH.actI id _ z' hob1 rfl hz hreal (e' ▸ hb)
            have hsz : (spliceV c.toList (e * cs.len + j) (a.eval y).cells.toList).toArray.size = c.size := by simp [spliceV]; simp at hfit; omega
            have hw := write_step (w' := w.setCells z'.b (e * cs.len + j) (a.eval y).cells.toList) (o' := .row cs (l.set e x) .own) hH hob1 rfl hz hreal rfl k4 k5 k6 k3 k2
              ⟨by simp [q1], q2, (fun hh => by rw [hreal] at hh; cases hh), fun _ => ⟨_, T, fz, k1, by rw [hsz]; exact h2, by rw [hsz]; simpa using h3, by
                intro i' t' hi'
                rw [List.getElem?_set] at hi'
                by_cases hie : e = i'
                · subst hie
                  simp [hlt] at hi'
                  subst hi'
                  have hput' := putsT_cells cs _ _ _ _ hput m3 hyc
                  refine Rt_of_cells (ρ := ρ) cs x _ _ (hput'.mono (fun _ h => h) hkeep (fun _ _ h => h)) fun j' v' hj' => ?_
                  have hvl : vs.length = cs.len := m1
                  simp only [World.cell?, k1]
                  have hcell : ∀ q u, vs[q]? = some u → c[e * cs.len + q]? = some u := by
                    intro q u hq
                    have := m2 q u hq
                    simp only [World.cell?, h1] at this
                    simpa using this
                  unfold spliceV at hj' ⊢
                  simp only [List.getElem?_append, List.length_append, List.length_take, List.getElem?_take, List.getElem?_drop, Array.length_toList, Option.isSome_none, Bool.false_eq_true, if_false, List.getElem?_toArray] at hj' ⊢
                  have hyl2 : (a.eval y).cells.size = tsz P t := by rw [← hyl, hc.1]
                  by_cases b1 : j' < j
                  · have b1' : j' < min j vs.length := by omega
                    have b1'' : j' < min j vs.length + (a.eval y).cells.size := by omega
                    simp only [b1, b1', b1'', if_true] at hj'
                    have b2 : e * cs.len + j' < min (e * cs.len + j) c.size := by omega
                    have b3 : e * cs.len + j' < min (e * cs.len + j) c.size + (a.eval y).cells.size := by omega
                    simp only [b2, b3, if_true, show e * cs.len + j' < e * cs.len + j by omega]
                    simpa using hcell _ _ hj'
                  · by_cases b4 : j' < j + (a.eval y).cells.size
                    · have b5 : ¬ j' < min j vs.length := by omega
                      have b6 : j' < min j vs.length + (a.eval y).cells.size := by omega
                      simp only [b5, b6, if_true, if_false] at hj'
                      have b7 : ¬ e * cs.len + j' < min (e * cs.len + j) c.size := by omega
                      have b8 : e * cs.len + j' < min (e * cs.len + j) c.size + (a.eval y).cells.size := by omega
                      simp only [b7, b8, if_true, if_false]
                      rw [show e * cs.len + j' - min (e * cs.len + j) c.size = j' - min j vs.length by omega]
                      exact hj'
                    · have b6 : ¬ j' < min j vs.length + (a.eval y).cells.size := by omega
                      simp only [b6, if_false] at hj'
                      have b8 : ¬ e * cs.len + j' < min (e * cs.len + j) c.size + (a.eval y).cells.size := by omega
                      simp only [b8, if_false]
                      have hq := hcell _ _ hj'
                      rw [show e * cs.len + j + (a.eval y).cells.size + (e * cs.len + j' - (min (e * cs.len + j) c.size + (a.eval y).cells.size)) = e * cs.len + (j + (a.eval y).cells.size + (j' - (min j vs.length + (a.eval y).cells.size))) by omega]
                      simpa using hq
                · simp only [hie, if_false] at hi'
                  have hrt := h4 i' t' hi'
                  obtain ⟨us, n1, n2, n3⟩ := Rt_cells (ρ := ρ) cs _ _ hrt
                  refine Rt_of_cells (ρ := ρ) cs t' _ _ (n3.mono (fun _ h => h) hkeep (fun _ _ h => h)) fun j' v' hj' => ?_
                  have hjl : j' < cs.len := by
                    have := (List.getElem?_eq_some_iff.1 hj').1
                    omega
                  have hq := n2 j' v' hj'
                  simp only [World.cell?, h1] at hq
                  simp only [World.cell?, k1]
                  have hout : i' * cs.len + j' < e * cs.len + j ∨ e * cs.len + j + (a.eval y).cells.size ≤ i' * cs.len + j' := by
                    have hyl2 : (a.eval y).cells.size = tsz P t := by rw [← hyl, hc.1]
                    rcases Nat.lt_or_ge i' e with hlt' | hge
                    · left
                      have : (i' + 1) * cs.len ≤ e * cs.len := Nat.mul_le_mul_right _ hlt'
                      rw [Nat.add_mul, Nat.one_mul] at this
                      omega
                    · right
                      have : (e + 1) * cs.len ≤ i' * cs.len := Nat.mul_le_mul_right _ (by omega)
                      rw [Nat.add_mul, Nat.one_mul] at this
                      omega
                  unfold spliceV
                  simp only [List.getElem?_append, List.length_append, List.length_take, List.getElem?_take, List.getElem?_drop, Array.length_toList, Option.isSome_none, Bool.false_eq_true, if_false, List.getElem?_toArray] at hq ⊢
                  simp at hfit
                  rw [Nat.min_eq_left (by omega)]
                  rcases hout with ho | ho
                  · simp only [show i' * cs.len + j' < e * cs.len + j by omega, show i' * cs.len + j' < e * cs.len + j + (a.eval y).cells.size by omega, if_true]
                    simpa using hq
                  · simp only [show ¬ i' * cs.len + j' < e * cs.len + j + (a.eval y).cells.size by omega, if_false]
                    rw [show e * cs.len + j + (a.eval y).cells.size + (i' * cs.len + j' - (e * cs.len + j + (a.eval y).cells.size)) = i' * cs.len + j' by omega]
                    simpa using hq, fun _ => by rw [hsz]; exact h5 rfl, (fun h => by cases h)⟩⟩
            refine OpGoes.of (w' := w.setCells z'.b (e * cs.len + j) (a.eval y).cells.toList) (cv := Go.undef) (ρ' := ρ) (I' := shutI I ρ (shutS h vy.cells)) hR hd (.inr ⟨?_, rfl⟩) ?_ (fun id x h => .inl h) ?_ rfl
            · have : ¬ ((a.eval y).cells.size ≠ tsz P t) := by simp; omega
              rw [q2] at hvx
              simp only [execOp, hop, hvx, Instr.storeAt, Instr.sureAddr, Sem.run_bind, Sem.run_pure, Result.andThen_ok, storeVar, run_sizeOf' hi, this, if_false, hst]
            · simp only [newO_nil, updO_append, updO]; exact hE.trans hw.1
            · simp only [newO_nil, updO_append, updO]; exact hw.2
          · exact (fail_run he).elim
        · exact (fail_run he).elim
      · exact (fail_run he).elim
    · exact (fail_run he).elim
  · exact (fail_run he).elim
end
end Go.Eng
