/- The engine, part 4: operators, fields, indexes. -/
import Derived.Test.YtnngcneobkfijaaE3
set_option linter.unusedSimpArgs false
set_option linter.unusedVariables false
namespace Go.Eng

theorem Rcs_length {w : World} {I : Nat → Prop} {ρ : Rho} : {cs : List C} → {vs : List Value} → Rcs w I ρ cs vs → cs.length = vs.length
  | [], [], _ => rfl
  | [], _ :: _, h => h.elim
  | _ :: _, [], h => h.elim
  | _ :: _, _ :: _, ⟨_, h⟩ => by simp [Rcs_length h]
theorem Rcs_get {w : World} {I : Nat → Prop} {ρ : Rho} : {cs : List C} → {vs : List Value} → Rcs w I ρ cs vs → ∀ (j : Nat) (c : C), cs[j]? = some c → ∃ v, vs[j]? = some v ∧ Rc w I ρ c v
  | [], [], _, j, c, h => by simp at h
  | [], _ :: _, h, _, _, _ => h.elim
  | _ :: _, [], h, _, _, _ => h.elim
  | _ :: _, v :: _, ⟨h1, h2⟩, 0, c, h => by simp at h; subst h; exact ⟨v, rfl, h1⟩
  | _ :: _, _ :: _, ⟨h1, h2⟩, j + 1, c, h => by simp at h; obtain ⟨v, k1, k2⟩ := Rcs_get h2 j c h; exact ⟨v, by simpa using k1, k2⟩
theorem Rcs_drop {w : World} {I : Nat → Prop} {ρ : Rho} : (n : Nat) → {cs : List C} → {vs : List Value} → Rcs w I ρ cs vs → Rcs w I ρ (cs.drop n) (vs.drop n)
  | 0, _, _, h => by simpa using h
  | _ + 1, [], [], _ => trivial
  | _ + 1, [], _ :: _, h => h.elim
  | _ + 1, _ :: _, [], h => h.elim
  | n + 1, _ :: _, _ :: _, ⟨_, h⟩ => by simpa using Rcs_drop n h
theorem Rcs_take {w : World} {I : Nat → Prop} {ρ : Rho} : (n : Nat) → {cs : List C} → {vs : List Value} → Rcs w I ρ cs vs → Rcs w I ρ (cs.take n) (vs.take n)
  | 0, _, _, _ => by simp; trivial
  | _ + 1, [], [], _ => trivial
  | _ + 1, [], _ :: _, h => h.elim
  | _ + 1, _ :: _, [], h => h.elim
  | n + 1, _ :: _, _ :: _, ⟨h1, h⟩ => by simp only [List.take_succ_cons]; exact ⟨h1, Rcs_take n h⟩
theorem Rcs_append {w : World} {I : Nat → Prop} {ρ : Rho} : {cs : List C} → {vs : List Value} → {cs' : List C} → {vs' : List Value} → Rcs w I ρ cs vs → Rcs w I ρ cs' vs' → Rcs w I ρ (cs ++ cs') (vs ++ vs')
  | [], [], _, _, _, h => h
  | [], _ :: _, _, _, h, _ => h.elim
  | _ :: _, [], _, _, h, _ => h.elim
  | _ :: _, _ :: _, _, _, ⟨h1, h⟩, h' => ⟨h1, Rcs_append h h'⟩

section
variable {P : Program} {w : World}

theorem info_of_underlying {t : TypeId} {d : TypeDesc} (h : P.underlying t = some d) : ∃ i, P.info? t = some i := by
  cases hi : P.info? t with
  | some i => exact ⟨i, rfl⟩
  | none => simp [Program.underlying, hi] at h
theorem run_typeInfo' {t : TypeId} {i : TypeInfo} (h : P.info? t = some i) : (typeInfo t).run P w = .ok i w := by simp [typeInfo, h]
theorem run_sizeOf' {t : TypeId} {i : TypeInfo} (h : P.info? t = some i) : (sizeOf t).run P w = .ok (tsz P t) w := by simp [sizeOf, typeInfo, tsz, h]
theorem run_isAgg' {t : TypeId} {d : TypeDesc} (h : P.underlying t = some d) : (isAgg t).run P w = .ok (aggT P t) w := by
  simp only [isAgg, Sem.run_bind, run_underlying h, Result.andThen_ok, aggT, h]
  cases d <;> rfl

theorem mkV_ok {I : Nat → Prop} {ρ : Rho} {t : TypeId} {d : TypeDesc} (hd : P.underlying t = some d) {cs : List C} {vs : List Value} (hr : Rcs w I ρ cs vs) {V0 : V} (h : (mkV (aggT P t) cs).run = some V0) :
    (aggT P t = true ∧ V0 = .agg cs) ∨ (aggT P t = false ∧ ∃ c v, cs = [c] ∧ vs = [v] ∧ V0 = .c c ∧ Rc w I ρ c v) := by
  cases ha : aggT P t with
  | true => left; simp only [ha, mkV, cond_true] at h; exact ⟨rfl, leaf_run h⟩
  | false =>
    right
    simp only [ha, mkV, cond_false] at h
    split at h
    · rename_i c
      cases vs with
      | nil => exact hr.elim
      | cons v vs =>
        cases vs with
        | nil => exact ⟨rfl, c, v, rfl, rfl, leaf_run h, hr.1⟩
        | cons _ _ => exact hr.2.elim
    · exact (fail_run h).elim

/-- A part of a value, as a value. -/
theorem part_ok {I : Nat → Prop} {ρ : Rho} {t : TypeId} {d : TypeDesc} (hd : P.underlying t = some d) {cs : List C} {vs : Array Value} (hr : Rcs w I ρ cs vs.toList) {off : Nat} (hle : off + tsz P t ≤ cs.length)
    {V0 : V} (h : (mkV (aggT P t) ((cs.drop off).take (tsz P t))).run = some V0) : ∃ v, (part t vs off).run P w = .ok v w ∧ Rv w I ρ V0 v := by
  obtain ⟨i, hi⟩ := info_of_underlying hd
  have hr' := Rcs_take (tsz P t) (Rcs_drop off hr)
  rcases mkV_ok hd hr' h with ⟨ha, rfl⟩ | ⟨ha, c, v, hc, hv, rfl, hcv⟩
  · refine ⟨.agg (vs.extract off (off + tsz P t)), ?_, vs.extract off (off + tsz P t), rfl, ?_⟩
    · simp only [part, Sem.run_bind, run_isAgg' hd, Result.andThen_ok, ha, if_true, run_sizeOf' hi, Sem.run_pure]
    · simpa [Array.toList_extract, List.extract] using hr'
  · refine ⟨v, ?_, hcv⟩
    have hv' : vs[off]? = some v := by
      have h1 : (List.take (tsz P t) (List.drop off vs.toList))[0]? = some v := by rw [hv]; rfl
      rw [List.getElem?_take] at h1
      split at h1
      · simpa using h1
      · cases h1
    simp only [part, Sem.run_bind, run_isAgg' hd, Result.andThen_ok, ha, Bool.false_eq_true, if_false, hv', Sem.run_pure]

/- equal structs -/
theorem eqCell_ok {I : Nat → Prop} {ρ : Rho} : {e : EK} → {x y : C} → {vx vy : Value} → Rc w I ρ x vx → Rc w I ρ y vy → {b : Bool} → eqCell e x y = some b →
    (e = .b ∧ ∃ p q : Bool, vx = .bool p ∧ vy = .bool q ∧ b = (p == q)) ∨ (e = .i ∧ ∃ (k : IntKind) (p q : Int), vx = .int k p ∧ vy = .int k q ∧ b = (p == q)) ∨ (e = .s ∧ ∃ p q : ByteArray, vx = .string p ∧ vy = .string q ∧ b = (p == q)) := by
  intro e x y vx vy hx hy b h
  unfold eqCell at h
  split at h
  · split at h
    · rename_i p _ q _ hp hq
      exact .inl ⟨rfl, p, q, asB_ok hx hp, asB_ok hy hq, by simpa using h.symm⟩
    · cases h
  · split at h
    · rename_i j p _ k q _ hp hq
      split at h
      · rename_i e; subst e
        exact .inr (.inl ⟨rfl, _, p, q, asI_ok hx hp, asI_ok hy hq, by simpa using h.symm⟩)
      · cases h
    · cases h
  · exact .inr (.inr ⟨rfl, _, _, hx, hy, by simpa using h.symm⟩)
  · cases h

theorem eqCells_append : {ks ls : List EK} → {cx cy : List C} → ∀ {r : Bool}, eqCells (ks ++ ls) cx cy = some r →
    ∃ p q, eqCells ks (cx.take ks.length) (cy.take ks.length) = some p ∧ eqCells ls (cx.drop ks.length) (cy.drop ks.length) = some q ∧ r = (p && q)
  | [], ls, cx, cy, r, h => ⟨true, r, by simp [eqCells], by simpa using h, by simp⟩
  | k :: ks, ls, x :: cx, y :: cy, r, h => by
    simp only [List.cons_append, eqCells] at h
    split at h
    · rename_i p q hp hq
      obtain ⟨p', q', h1, h2, rfl⟩ := eqCells_append hq
      refine ⟨p && p', q', ?_, by simpa using h2, ?_⟩
      · simp [eqCells, hp, h1]
      · simp at h; rw [← h, Bool.and_assoc]
    · cases h
  | _ :: _, _, [], _, _, h => by simp [eqCells] at h
  | _ :: _, _, _ :: _, [], _, h => by simp [eqCells] at h

theorem eqCells_length : {ks : List EK} → {cx cy : List C} → {r : Bool} → eqCells ks cx cy = some r → cx.length = ks.length ∧ cy.length = ks.length
  | [], [], [], _, _ => ⟨rfl, rfl⟩
  | _ :: ks, _ :: cx, _ :: cy, r, h => by
    simp only [eqCells] at h
    split at h
    · rename_i hq; have := eqCells_length hq; simp [this]
    · cases h
  | [], _ :: _, _, _, h => by simp [eqCells] at h
  | [], [], _ :: _, _, h => by simp [eqCells] at h
  | _ :: _, [], _, _, h => by simp [eqCells] at h
  | _ :: _, _ :: _, [], _, h => by simp [eqCells] at h

/-- What 'equal' says of two values of a flat type: at a place of two aggregates. -/
theorem flat_ok {I : Nat → Prop} {ρ : Rho} : (n : Nat) → (t : TypeId) → (ks : List EK) → flatK P n t = some ks → ks.length = tsz P t → (D : Nat) → n ≤ D → (xs ys : Array Value) → (off : Nat) → (cx cy : List C) → Rcs w I ρ cx xs.toList → Rcs w I ρ cy ys.toList →
    (r : Bool) → eqCells ks ((cx.drop off).take (tsz P t)) ((cy.drop off).take (tsz P t)) = some r →
    ∃ a b, (part t xs off).run P w = .ok a w ∧ (part t ys off).run P w = .ok b w ∧ (Op.equalIn D t a b).run P w = .ok r w := by
  intro n
  induction n with
  | zero => intro t ks h; simp [flatK] at h
  | succ n ih =>
    intro t ks h hks D hD xs ys off cx cy hx hy r hr
    obtain ⟨D, rfl⟩ : ∃ d, D = d + 1 := ⟨D - 1, by omega⟩
    have one : ∀ d e, P.underlying t = some d → aggT P t = false → ks = [e] → ∃ x y vx vy, eqCell e x y = some r ∧ Rc w I ρ x vx ∧ Rc w I ρ y vy ∧
        (part t xs off).run P w = .ok vx w ∧ (part t ys off).run P w = .ok vy w := by
      intro d e hd ha hk
      subst hk
      have hs : tsz P t = 1 := by simpa using hks.symm
      have hl := eqCells_length hr
      rw [hs] at hr hl
      simp only [List.length_take, List.length_drop, List.length_cons, List.length_nil] at hl
      obtain ⟨x, hx0⟩ : ∃ x, cx[off]? = some x := ⟨_, List.getElem?_eq_getElem (by omega)⟩
      obtain ⟨y, hy0⟩ : ∃ y, cy[off]? = some y := ⟨_, List.getElem?_eq_getElem (by omega)⟩
      obtain ⟨vx, hvx, hrx⟩ := Rcs_get hx off x hx0
      obtain ⟨vy, hvy, hry⟩ := Rcs_get hy off y hy0
      have ex : List.take 1 (List.drop off cx) = [x] := by rw [List.take_one]; simp [hx0]
      have ey : List.take 1 (List.drop off cy) = [y] := by rw [List.take_one]; simp [hy0]
      rw [ex, ey] at hr
      have he : eqCell e x y = some r := by
        simp only [eqCells] at hr
        split at hr
        · rename_i p q hp hq; simp at hq; subst hq; simpa [hp] using hr
        · cases hr
      refine ⟨x, y, vx, vy, he, hrx, hry, ?_, ?_⟩
      · have : xs[off]? = some vx := by simpa using hvx
        simp only [part, Sem.run_bind, run_isAgg' hd, Result.andThen_ok, ha, Bool.false_eq_true, if_false, this, Sem.run_pure]
      · have : ys[off]? = some vy := by simpa using hvy
        simp only [part, Sem.run_bind, run_isAgg' hd, Result.andThen_ok, ha, Bool.false_eq_true, if_false, this, Sem.run_pure]
    simp only [flatK] at h
    split at h
    · rename_i hd
      simp at h; subst h
      obtain ⟨x, y, vx, vy, he, hrx, hry, p1, p2⟩ := one _ .b hd (by simp [aggT, hd]) rfl
      refine ⟨vx, vy, p1, p2, ?_⟩
      rcases eqCell_ok hrx hry he with ⟨_, p, q, rfl, rfl, rfl⟩ | ⟨h, _⟩ | ⟨h, _⟩
      · simp [Op.equalIn, run_underlying hd]
      · cases h
      · cases h
    · rename_i hd
      simp at h; subst h
      obtain ⟨x, y, vx, vy, he, hrx, hry, p1, p2⟩ := one _ .i hd (by simp [aggT, hd]) rfl
      refine ⟨vx, vy, p1, p2, ?_⟩
      rcases eqCell_ok hrx hry he with ⟨h, _⟩ | ⟨_, k, p, q, rfl, rfl, rfl⟩ | ⟨h, _⟩
      · cases h
      · simp [Op.equalIn, run_underlying hd]
      · cases h
    · rename_i hd
      simp at h; subst h
      obtain ⟨x, y, vx, vy, he, hrx, hry, p1, p2⟩ := one _ .s hd (by simp [aggT, hd]) rfl
      refine ⟨vx, vy, p1, p2, ?_⟩
      rcases eqCell_ok hrx hry he with ⟨h, _⟩ | ⟨h, _⟩ | ⟨_, p, q, rfl, rfl, rfl⟩
      · cases h
      · cases h
      · simp [Op.equalIn, run_underlying hd]
    · rename_i fs hd
      split at h
      · rename_i hst
        have ha : aggT P t = true := by simp [aggT, hd]
        obtain ⟨i, hi⟩ := info_of_underlying hd
        have hfo : P.fieldsOf t = fs := by simp [Program.fieldsOf, hd]
        refine ⟨.agg (xs.extract off (off + tsz P t)), .agg (ys.extract off (off + tsz P t)), ?_, ?_, ?_⟩
        · simp only [part, Sem.run_bind, run_isAgg' hd, Result.andThen_ok, ha, if_true, run_sizeOf' hi, Sem.run_pure]
        · simp only [part, Sem.run_bind, run_isAgg' hd, Result.andThen_ok, ha, if_true, run_sizeOf' hi, Sem.run_pure]
        · rw [run_equalIn_struct w D t _ _ (by rw [hfo]; exact hd) hst.1, hfo]
          have key : ∀ (fl : List Go.Field) (o : Nat) (ks : List EK), flatFs P (flatK P n) fl o = some ks → ∀ (xs ys : Array Value) (cx cy : List C), Rcs w I ρ cx xs.toList → Rcs w I ρ cy ys.toList →
              ∀ r, eqCells ks (cx.drop o) (cy.drop o) = some r → (Op.eqFields D xs ys fl).run P w = .ok r w := by
            intro fl
            induction fl with
            | nil =>
              intro o ks hk xs ys cx cy hx hy r hr
              simp [flatFs] at hk; subst hk
              have hl := eqCells_length hr
              have e1 : cx.drop o = [] := List.eq_nil_of_length_eq_zero hl.1
              have e2 : cy.drop o = [] := List.eq_nil_of_length_eq_zero hl.2
              rw [e1, e2] at hr
              simp [eqCells] at hr; subst hr
              simp [Op.eqFields]
            | cons f fl ihf =>
              intro o ks hk xs ys cx cy hx hy r hr
              simp only [flatFs] at hk
              split at hk
              · rename_i hfo
                split at hk
                · rename_i a b hfa hfb
                  split at hk
                  · rename_i hal
                    simp at hk; subst hk
                    obtain ⟨p, q, h1, h2, rfl⟩ := eqCells_append hr
                    rw [hal] at h1 h2
                    obtain ⟨va, vb, p1, p2, p3⟩ := ih f.type a hfa hal D (by omega) xs ys o cx cy hx hy p h1
                    rw [List.drop_drop, List.drop_drop] at h2
                    have p4 := ihf (o + tsz P f.type) b hfb xs ys cx cy hx hy q h2
                    rw [← hfo.1] at p1 p2
                    simp only [Op.eqFields, ne_eq, hfo.2, not_false_eq_true, if_true, Sem.run_bind, p1, p2, p3, Result.andThen_ok]
                    cases p
                    · simp
                    · simpa using p4
                  · cases hk
                · cases hk
              · cases hk
          refine key fs.toList 0 ks h (xs.extract off (off + tsz P t)) (ys.extract off (off + tsz P t)) _ _ ?_ ?_ r (by simpa using hr)
          · simpa [Array.toList_extract, List.extract] using Rcs_take (tsz P t) (Rcs_drop off hx)
          · simpa [Array.toList_extract, List.extract] using Rcs_take (tsz P t) (Rcs_drop off hy)
      · cases h
    · cases h
end
end Go.Eng
