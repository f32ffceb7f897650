/- The engine, part 20J: branches of a region made one again. -/
import Derived.Test.YtnngcneobkfijaaE20N
set_option linter.unusedSimpArgs false
set_option linter.unusedVariables false
namespace Go.Eng
section
variable {P : Program} {E : Env} {w : World} {I : Nat → Prop} {ρ : Rho} {n : Nat} {a : Act}

theorem eqNat2_ok {a b c d : Nat} (h : eqNat2 a b c d = true) : a = b ∧ c = d := by
  simp only [eqNat2, Bool.and_eq_true] at h
  exact ⟨Nat.eq_of_beq_eq_true h.1, Nat.eq_of_beq_eq_true h.2⟩
theorem eqCaps_ok : {a b : List (Nat × Nat)} → eqCaps a b = true → a = b
  | [], [], _ => rfl
  | [], _ :: _, h => by cases h
  | _ :: _, [], h => by cases h
  | (x, x') :: r, (y, y') :: q, h => by
    simp only [eqCaps, Bool.and_eq_true] at h
    obtain ⟨h1, h2⟩ := eqNat2_ok h.1
    have h1 : x = y := h1
    have h2 : x' = y' := h2
    rw [eqCaps_ok h.2, h1, h2]

theorem joinB_ok {b : Bool} {p q : Bool × Bool} {v : Value} (h : v = .bool (if b = true then p.1 else q.1)) : Rc w I ρ (joinB b p q) v := by
  unfold joinB
  cases hc : (p.2 && q.2 && (p.1 == q.1)) with
  | true =>
    simp only [Bool.and_eq_true, beq_iff_eq] at hc
    rw [cond_true]
    have : v = .bool p.1 := by rw [h, ← hc.2]; cases b <;> rfl
    subst this
    exact mkB_ok
  | false => rw [cond_false]; subst h; cases b <;> rfl
theorem joinI_ok {b : Bool} {p q : IntKind × Int × Bool} {v : Value} (h : v = if b = true then .int p.1 p.2.1 else .int q.1 q.2.1) : Rc w I ρ (joinI b p q) v := by
  unfold joinI
  split
  · rename_i e
    cases hc : (p.2.2 && q.2.2) with
    | true =>
      rw [cond_true]
      split
      · rename_i e2
        have : v = .int p.1 p.2.1 := by rw [h, ← e, ← e2]; cases b <;> rfl
        exact this
      · cases b <;> (subst h; simp [Rc, e])
    | false => rw [cond_false]; cases b <;> (subst h; simp [Rc, e])
  · trivial

theorem joinC1_ok {b : Bool} {x y : C} {v : Value} (h : Rc w I ρ (if b = true then x else y) v) : Rc w I ρ (joinC1 b x y) v := by
  cases x with
  | str s => cases y <;> first | trivial | (cases b <;> exact h)
  | lst cs l =>
    cases y <;> first | trivial | skip
    · rename_i cs' l'
      show Rc w I ρ (joinL b cs l cs' l') v
      unfold joinL
      split
      · rename_i l2 hl
        obtain ⟨e, h2⟩ := castL_ok hl
        subst e
        subst h2
        cases b <;> exact h
      · trivial
    · cases b with
      | true => exact h
      | false =>
        have h : v = .slice none 0 0 := h
        exact ⟨none, 0, h, Nat.le_refl _, fun _ => rfl, fun ad h => by cases h⟩
  | nilsl =>
    cases y <;> first | trivial | skip
    · rename_i cs l
      cases b with
      | true =>
        have h : v = .slice none 0 0 := h
        exact ⟨none, 0, h, Nat.le_refl _, fun _ => rfl, fun ad h => by cases h⟩
      | false => exact h
    · cases b <;> exact h
  | nilptr => cases y <;> first | trivial | (cases b <;> exact h)
  | nilmap => cases y <;> first | trivial | (cases b <;> exact h)
  | nilfn => cases y <;> first | trivial | (cases b <;> exact h)
  | ref id off =>
    cases y <;> first | trivial | skip
    rename_i id' off'
    show Rc w I ρ (bif eqNat2 id id' off off' then .ref id off else .any) v
    cases hc : eqNat2 id id' off off' with
    | false => trivial
    | true => obtain ⟨rfl, rfl⟩ := eqNat2_ok hc; cases b <;> exact h
  | rw id sz k =>
    cases y <;> first | trivial | skip
    rename_i id' sz' k'
    show Rc w I ρ (bif eqNat2 id id' sz sz' then .rw id sz (k && k') else .any) v
    cases hc : eqNat2 id id' sz sz' with
    | false => trivial
    | true => obtain ⟨rfl, rfl⟩ := eqNat2_ok hc; cases b <;> exact h
  | mp id =>
    cases y <;> first | trivial | skip
    rename_i id'
    show Rc w I ρ (bif Nat.beq id id' then .mp id else .any) v
    cases hc : Nat.beq id id' with
    | false => trivial
    | true => have := Nat.eq_of_beq_eq_true hc; subst this; cases b <;> exact h
  | fn k caps =>
    cases y <;> first | trivial | skip
    rename_i k' caps'
    show Rc w I ρ (bif Nat.beq k k' && eqCaps caps caps' then .fn k caps else .any) v
    cases hc : (Nat.beq k k' && eqCaps caps caps') with
    | false => trivial
    | true =>
      simp only [Bool.and_eq_true] at hc
      have h1 := Nat.eq_of_beq_eq_true hc.1
      have h2 := eqCaps_ok hc.2
      subst h1 h2
      cases b <;> exact h
  | _ => trivial
theorem joinC_ok {b : Bool} {x y : C} {v : Value} (h : Rc w I ρ (if b = true then x else y) v) : Rc w I ρ (joinC b x y) v := by
  unfold joinC
  split
  · rename_i p q hp hq
    refine joinB_ok ?_
    cases b with
    | true => exact asB_ok (kn := p.2) h hp
    | false => exact asB_ok (kn := q.2) h hq
  · split
    · rename_i p q hp hq
      refine joinI_ok ?_
      cases b with
      | true => exact asI_ok (k := p.1) (n := p.2.1) (kn := p.2.2) h hp
      | false => exact asI_ok (k := q.1) (n := q.2.1) (kn := q.2.2) h hq
    · exact joinC1_ok h

theorem joinCs_ok {b : Bool} : {xs ys : List C} → {vs : List Value} → sameLen xs ys = true → Rcs w I ρ (if b = true then xs else ys) vs → Rcs w I ρ (joinCs b xs ys) vs
  | [], [], vs, _, h => by cases b <;> exact h
  | [], _ :: _, _, hl, _ => by cases hl
  | _ :: _, [], _, hl, _ => by cases hl
  | x :: r, y :: q, vs, hl, h => by
    have hl : sameLen r q = true := hl
    cases vs with
    | nil => cases b <;> exact h.elim
    | cons v vs =>
      cases b with
      | true => exact ⟨joinC_ok (b := true) h.1, joinCs_ok (b := true) hl h.2⟩
      | false => exact ⟨joinC_ok (b := false) h.1, joinCs_ok (b := false) hl h.2⟩

theorem joinV_ok {b : Bool} {x y : V} {v : Value} (h : Rv w I ρ (if b = true then x else y) v) : Rv w I ρ (joinV b x y) v := by
  cases x with
  | c x =>
    cases y with
    | c y => exact joinC_ok (b := b) (by cases b <;> exact h)
    | _ => trivial
  | agg xs =>
    cases y with
    | agg ys =>
      show Rv w I ρ (bif sameLen xs ys then .agg (joinCs b xs ys) else .c .any) v
      cases hl : sameLen xs ys with
      | false => trivial
      | true =>
        cases b with
        | true => obtain ⟨vs, h1, h2⟩ := h; exact ⟨vs, h1, joinCs_ok (b := true) hl h2⟩
        | false => obtain ⟨vs, h1, h2⟩ := h; exact ⟨vs, h1, joinCs_ok (b := false) hl h2⟩
    | _ => trivial
  | tup _ => trivial

theorem joinO_ok {b : Bool} {x y : Option Obj} {o2 : Obj} (h : joinO b x y = some o2) : ∃ o1, (if b = true then x else y) = some o1 ∧ owned o2 = owned o1 ∧ ∀ w I ρ z, Ro w I ρ z o1 → Ro w I ρ z o2 := by
  unfold joinO at h
  split at h
  · split at h
    · rename_i xs _ ys
      cases hl : sameLen xs ys with
      | false => rw [hl] at h; cases h
      | true =>
        rw [hl] at h
        cases h
        cases b with
        | true => exact ⟨_, rfl, rfl, fun w I ρ z ⟨hr, c, T, fz, h1, h2, h3, h4⟩ => ⟨hr, c, T, fz, h1, h2, h3, joinCs_ok (b := true) hl h4⟩⟩
        | false => exact ⟨_, rfl, rfl, fun w I ρ z ⟨hr, c, T, fz, h1, h2, h3, h4⟩ => ⟨hr, c, T, fz, h1, h2, h3, joinCs_ok (b := false) hl h4⟩⟩
    · cases h
  · split at h
    · rename_i cs l o _ cs' l' o'
      cases ho : eqOwn o o' with
      | false => rw [ho] at h; cases h
      | true =>
        rw [ho, cond_true] at h
        have : o = o' := by cases o <;> cases o' <;> first | rfl | cases ho
        subst this
        split at h
        · rename_i l2 hl
          obtain ⟨e, h2⟩ := castL_ok hl
          subst e
          subst h2
          cases h
          cases b <;> exact ⟨_, rfl, rfl, fun _ _ _ _ h => h⟩
        · cases h
    · cases h
  · split at h
    · split at h
      · rename_i e
        subst e
        split at h
        · rename_i e
          subst e
          cases h
          cases b <;> exact ⟨_, rfl, rfl, fun _ _ _ _ h => h⟩
        · cases h
      · cases h
    · cases h
  · cases h

/-- a state says no more than another one -/
structure WkS (s s' : St) : Prop where
  tm : ∀ t w I ρ v, Rv w I ρ (tget s.tm t) v → Rv w I ρ (tget s'.tm t) v
  len : s.hp.length ≤ s'.hp.length
  ob : ∀ i o2, s'.hp.at? i = some o2 → ∃ o1, s.hp.at? i = some o1 ∧ owned o2 = owned o1 ∧ ∀ w I ρ x, Ro w I ρ x o1 → Ro w I ρ x o2
theorem WkS.refl (s : St) : WkS s s := ⟨fun _ _ _ _ _ h => h, Nat.le_refl _, fun i o h => ⟨o, h, rfl, fun _ _ _ _ h => h⟩⟩
theorem WkS.trans {s s' s'' : St} (h : WkS s s') (k : WkS s' s'') : WkS s s'' :=
  ⟨fun t w I ρ v hv => k.tm t w I ρ v (h.tm t w I ρ v hv), Nat.le_trans h.len k.len, fun i o2 ho => by
    obtain ⟨o1, h1, h2, h3⟩ := k.ob i o2 ho
    obtain ⟨o0, k1, k2, k3⟩ := h.ob i o1 h1
    exact ⟨o0, k1, h2.trans k2, fun w I ρ x hx => h3 w I ρ x (k3 w I ρ x hx)⟩⟩
theorem WkS.rel {s s' : St} (h : WkS s s') (hR : RelS n s ρ I a w) (base : Nat) : RelS n s' ρ I a w ∧ ExtB base s.hp.at? ρ I w s'.hp.at? ρ I w := by
  refine ⟨⟨⟨?_, hR.rel.defers, hR.rel.size, fun t => h.tm t _ _ _ _ (hR.rel.tm t)⟩, fun id x hx => Nat.lt_of_lt_of_le (hR.dom id x hx) h.len⟩, ExtB.swap fun i o' ho => ?_⟩
  · refine hR.rel.heap.swap fun i o' ho => ?_
    obtain ⟨o, q1, q2, q3⟩ := h.ob i o' ho
    exact ⟨o, q1, q2, fun z _ hz => q3 _ _ _ _ hz⟩
  · obtain ⟨o, q1, q2, _⟩ := h.ob i o' ho
    exact ⟨o, q1, q2⟩

theorem joinH_at {b : Bool} : (h1 h2 : Heap) → (∀ i o2, (joinH b h1 h2).at? i = some o2 → ∃ o1, (if b = true then h1 else h2).at? i = some o1 ∧ owned o2 = owned o1 ∧ ∀ w I ρ x, Ro w I ρ x o1 → Ro w I ρ x o2) ∧ h1.length ≤ (joinH b h1 h2).length ∧ h2.length ≤ (joinH b h1 h2).length
  | [], q => by
    refine ⟨fun i o2 h => ?_, by simp [joinH], by simp [joinH]⟩
    simp only [joinH, Heap.at?, List.getElem?_map] at h
    cases hq : q[i]? <;> rw [hq] at h <;> simp at h
  | x :: r, [] => by
    refine ⟨fun i o2 h => ?_, by simp [joinH], by simp [joinH]⟩
    simp only [joinH, Heap.at?, List.getElem?_map] at h
    cases hq : (x :: r)[i]? <;> rw [hq] at h <;> simp at h
  | x :: r, y :: q => by
    obtain ⟨k1, k2, k3⟩ := joinH_at (b := b) r q
    refine ⟨fun i o2 h => ?_, by simp [joinH]; exact k2, by simp [joinH]; exact k3⟩
    cases i with
    | zero =>
      simp only [joinH, Heap.at?, List.getElem?_cons_zero, Option.join_some] at h
      obtain ⟨o1, h1, h2⟩ := joinO_ok h
      refine ⟨o1, ?_, h2⟩
      cases b <;> simpa [Heap.at?] using h1
    | succ i =>
      simp only [joinH, Heap.at?, List.getElem?_cons_succ] at h
      obtain ⟨o1, h1, h2⟩ := k1 i o2 h
      refine ⟨o1, ?_, h2⟩
      cases b <;> simpa [Heap.at?] using h1

theorem tget_mapK (g : Nat → V → V) (q : Nat) : (tm : List (Nat × V)) → tget (tm.map fun p => (p.1, g p.1 p.2)) q = g q (tget tm q) ∨ (tget tm q = .c .any ∧ tget (tm.map fun p => (p.1, g p.1 p.2)) q = .c .any)
  | [] => .inr ⟨rfl, rfl⟩
  | (k, v) :: r => by
    rw [List.map_cons, tget_cons, tget_cons]
    cases hb : Nat.beq k q with
    | true => have := Nat.eq_of_beq_eq_true hb; subst this; exact .inl rfl
    | false => exact tget_mapK g q r

/-- of all leaves -/
def AllL {α : Type} (Q : α → Prop) : Tree α → Prop
  | .leaf a => Q a
  | .node _ t f => AllL Q t ∧ AllL Q f
  | .fail => True
  | .hyp _ t => AllL Q t
theorem AllL.bind {α β : Type} {Q : β → Prop} {Q' : α → Prop} {k : α → Tree β} (hk : ∀ a, Q' a → AllL Q (k a)) : {t : Tree α} → AllL Q' t → AllL Q (t.bind k)
  | .leaf a, h => hk a h
  | .node _ t f, h => ⟨AllL.bind hk (t := t) h.1, AllL.bind hk (t := f) h.2⟩
  | .fail, _ => trivial
  | .hyp _ t, h => AllL.bind hk (t := t) h
theorem AllL.bindId {α : Type} {Q Q' : α → Prop} (hi : ∀ a, Q a → Q' a) : {t : Tree α} → AllL Q t → AllL Q' t
  | .leaf a, h => hi a h
  | .node _ t f, h => ⟨AllL.bindId hi (t := t) h.1, AllL.bindId hi (t := f) h.2⟩
  | .fail, _ => trivial
  | .hyp _ t, h => AllL.bindId hi (t := t) h
theorem AllL.triv {α : Type} : (t : Tree α) → AllL (fun _ => True) t
  | .leaf _ => trivial
  | .node _ t f => ⟨AllL.triv t, AllL.triv f⟩
  | .fail => trivial
  | .hyp _ t => AllL.triv t
def Agree (ds : List Nat) (s0 s : St) : Prop := ∀ q, q ∉ ds → tget s.tm q = tget s0.tm q
def AgreeQ (q : Bool) (ds : List Nat) (s0 s : St) : Prop := Agree ds s0 s ∧ (q = true → s.hp = s0.hp)

theorem joinSt_ok {q b : Bool} {ds : List Nat} {s0 s1 s2 : St} (h1 : AgreeQ q ds s0 s1) (h2 : AgreeQ q ds s0 s2) : WkS (if b = true then s1 else s2) (joinSt q b ds s1 s2) ∧ AgreeQ q ds s0 (joinSt q b ds s1 s2) := by
  obtain ⟨h1, e1⟩ := h1
  obtain ⟨h2, e2⟩ := h2
  have hg := fun q => tget_mapK (fun t v => bif hasN ds t then joinV b v (tget s2.tm t) else v) q s1.tm
  obtain ⟨k1, k2, k3⟩ := joinH_at (b := b) s1.hp s2.hp
  refine ⟨⟨fun t w I ρ v hv => ?_, ?_, fun i o2 ho => ?_⟩, ?_⟩
  · rcases hg t with h | ⟨_, h⟩
    · show Rv w I ρ (tget (joinSt q b ds s1 s2).tm t) v
      have e : tget (joinSt q b ds s1 s2).tm t = _ := h
      rw [e]
      cases hd : hasN ds t with
      | true => rw [cond_true]; exact joinV_ok (b := b) (by cases b <;> exact hv)
      | false =>
        rw [cond_false]
        have hn : t ∉ ds := fun hm => by rw [hasN_eq] at hd; simp [hm] at hd
        cases b with
        | true => exact hv
        | false =>
          have : tget s2.tm t = tget s1.tm t := (h2 t hn).trans (h1 t hn).symm
          have hv : Rv w I ρ (tget s2.tm t) v := hv
          rw [this] at hv
          exact hv
    · have e : tget (joinSt q b ds s1 s2).tm t = _ := h
      rw [e]; trivial
  · cases q with
    | true => simp only [joinSt, cond_true]; rw [e1 rfl]; cases b <;> simp [e1 rfl, e2 rfl]
    | false => cases b <;> assumption
  · cases q with
    | true =>
      simp only [joinSt, cond_true] at ho
      rw [e1 rfl] at ho
      exact ⟨o2, by cases b <;> simpa [e1 rfl, e2 rfl] using ho, rfl, fun _ _ _ _ h => h⟩
    | false =>
      obtain ⟨o1, q1, q2⟩ := k1 i o2 ho
      exact ⟨o1, by cases b <;> exact q1, q2⟩
  refine ⟨fun q' hq => ?_, fun hq => by subst hq; exact e1 rfl⟩
  · have hd : hasN ds q' = false := by rw [hasN_eq]; simpa using hq
    rcases hg q' with h | ⟨h0, h⟩
    · have e : tget (joinSt q b ds s1 s2).tm q' = _ := h
      rw [e, hd, cond_false]; exact h1 q' hq
    · have e : tget (joinSt q b ds s1 s2).tm q' = _ := h
      rw [e, ← h0]; exact h1 q' hq

def safe : Option Bool → Bool
  | none => true
  | some c => c
theorem joinT_ok {q : Bool} {ds : List Nat} {s0 : St} : (t : Tree St) → AllL (AgreeQ q ds s0) t → ∀ {c : Option Bool} {s : St}, joinT q ds t = some (some (c, s)) → AgreeQ q ds s0 s ∧ (safe c = true → ∃ s1, t.run = some s1 ∧ WkS s1 s)
  | .leaf x, ha, c, s, h => by
    simp only [joinT, Option.some.injEq, Prod.mk.injEq] at h
    obtain ⟨rfl, rfl⟩ := h
    exact ⟨ha, fun _ => ⟨_, rfl, WkS.refl _⟩⟩
  | .fail, _, c, s, h => by simp [joinT] at h
  | .hyp _ _, _, c, s, h => by simp [joinT] at h
  | .node b t f, ha, c, s, h => by
    simp only [joinT] at h
    split at h
    · simp at h
    · rename_i c2 s2 e1 e2
      simp only [Option.some.injEq, Prod.mk.injEq] at h
      obtain ⟨rfl, rfl⟩ := h
      obtain ⟨k1, k2⟩ := joinT_ok f ha.2 e2
      refine ⟨k1, fun hs => ?_⟩
      have hb : b = false ∧ safe c2 = true := by cases c2 <;> simp [safe] at hs ⊢ <;> first | exact hs | exact hs
      obtain ⟨rfl, hs⟩ := hb
      exact k2 hs
    · rename_i c1 s1 e1 e2
      simp only [Option.some.injEq, Prod.mk.injEq] at h
      obtain ⟨rfl, rfl⟩ := h
      obtain ⟨k1, k2⟩ := joinT_ok t ha.1 e1
      refine ⟨k1, fun hs => ?_⟩
      have hb : b = true ∧ safe c1 = true := by cases c1 <;> simp [safe] at hs ⊢ <;> first | exact hs | exact hs
      obtain ⟨rfl, hs⟩ := hb
      exact k2 hs
    · rename_i c1 s1 c2 s2 e1 e2
      simp only [Option.some.injEq, Prod.mk.injEq] at h
      obtain ⟨hc, rfl⟩ := h
      obtain ⟨k1, k2⟩ := joinT_ok t ha.1 e1
      obtain ⟨l1, l2⟩ := joinT_ok f ha.2 e2
      obtain ⟨m1, m2⟩ := joinSt_ok (b := b) k1 l1
      refine ⟨m2, fun hs => ?_⟩
      cases b with
      | true =>
        have : safe c1 = true := by cases c1 <;> cases c2 <;> subst hc <;> simp_all [safe]
        obtain ⟨s', q1, q2⟩ := k2 this
        exact ⟨s', q1, q2.trans m1⟩
      | false =>
        have : safe c2 = true := by cases c1 <;> cases c2 <;> subst hc <;> simp_all [safe]
        obtain ⟨s', q1, q2⟩ := l2 this
        exact ⟨s', q1, q2.trans m1⟩
    · simp at h

theorem joined_ok {q : Bool} {ds : List Nat} {s0 s : St} {t : Tree St} (ha : AllL (AgreeQ q ds s0) t) (h : (joined q ds t).run = some s) : ∃ s1, t.run = some s1 ∧ WkS s1 s := by
  unfold joined at h
  split at h
  · exact ⟨s, h, WkS.refl _⟩
  · exact (fail_run h).elim
  · rename_i s1 e
    cases leaf_run h
    exact (joinT_ok t ha e).2 rfl
  · rename_i c s1 e
    obtain ⟨hc, h⟩ := node_fail h
    cases leaf_run h
    exact (joinT_ok t ha e).2 hc

/- what a region leaves of the temporaries that it does not name -/
theorem agree_put {ds : List Nat} {s0 s : St} {dst : Option Nat} {out : Out} (hd : ∀ d, dst = some d → d ∈ ds) (h : Agree ds s0 s) : Agree ds s0 (s.put dst out) := by
  intro q hq
  cases dst with
  | none => exact h q hq
  | some d =>
    show tget (tset s.tm d out.v) q = _
    rw [tget_tset, if_neg (fun e : q = d => hq (e ▸ hd d rfl))]
    exact h q hq
theorem agree_set {ds : List Nat} {s0 s : St} {g : Nat} {v : V} (hg : g ∈ ds) (h : Agree ds s0 s) : Agree ds s0 { s with tm := tset s.tm g v } := by
  intro q hq
  show tget (tset s.tm g v) q = _
  rw [tget_tset, if_neg (fun e : q = g => hq (e ▸ hg))]
  exact h q hq
/- quiet operations -/
def Quiet (out : Out) : Prop := out.upd = [] ∧ out.new = []
theorem quiet_v (v : V) : Quiet { v := v } := ⟨rfl, rfl⟩
theorem quiet_pure (c : C) : AllL Quiet (pureO c) := ⟨rfl, rfl⟩
theorem quiet_bindv (t : Tree V) : AllL Quiet (t.bind fun v => .leaf { v := v }) := AllL.bind (Q' := fun _ => True) (fun v _ => (show AllL Quiet (Tree.leaf ({ v := v } : Out)) from quiet_v v)) (AllL.triv t)
theorem quiet_bindc (t : Tree C) : AllL Quiet (t.bind pureO) := AllL.bind (Q' := fun _ => True) (fun c _ => quiet_pure c) (AllL.triv t)
theorem quiet_test {b k : Bool} {t f : Tree Out} (h1 : AllL Quiet t) (h2 : AllL Quiet f) : AllL Quiet (test b k t f) := by
  cases k <;> cases b <;> first | exact h1 | exact h2 | exact ⟨h1, h2⟩
theorem quiet_arr {k : Nat → Tree Out} {i : Int} (hk : ∀ j, AllL Quiet (k j)) : (n j : Nat) → AllL Quiet (arrCases k i n j)
  | 0, _ => trivial
  | n + 1, j => ⟨hk j, quiet_arr hk n (j + 1)⟩
theorem quiet_if {c : Prop} [Decidable c] {t f : Tree Out} (h1 : AllL Quiet t) (h2 : AllL Quiet f) : AllL Quiet (if c then t else f) := by split <;> assumption
theorem quiet_lookupR {e : TypeId} {ok : Bool} {cs : List C} {b known : Bool} : AllL Quiet (lookupR P e ok cs b known) := by
  unfold lookupR; split <;> first | exact quiet_v _ | trivial
theorem quiet_pick {x a b : V} : AllL Quiet (match x with
    | .c x => match asB x with
      | some (b', k) => test b' k (.leaf { v := a }) (.leaf { v := b })
      | none => .fail
    | _ => .fail : Tree Out) := by
  split
  · split
    · exact quiet_test (quiet_v _) (quiet_v _)
    · trivial
  · trivial
theorem quiet_load {h : Heap} {t : TypeId} {a : V} : AllL Quiet (loadO P h t a) := by
  unfold loadO
  repeat' (first | trivial | exact quiet_bindv _ | exact ⟨quiet_if (quiet_bindv _) trivial, trivial⟩ | split)
theorem quiet_bin {op : BinOp} {t : TypeId} {x y : V} : AllL Quiet (binO P op t x y) := by
  unfold binO
  repeat' (first | trivial | exact quiet_bindc _ | exact quiet_pure _ | split)
theorem quiet_un {op : UnOp} {x : V} : AllL Quiet (unO op x) := by
  unfold unO
  repeat' (first | trivial | exact quiet_pure _ | split)
theorem quiet_conv {h : Heap} {s d : TypeId} {x : V} : AllL Quiet (convertO P h s d x) := by
  unfold convertO
  repeat' (first | trivial | exact quiet_pure _ | split)
theorem quiet_fa {t : TypeId} {f : Nat} {x : V} : AllL Quiet (fieldAddrO P t f x) := by
  unfold fieldAddrO
  repeat' (first | trivial | exact quiet_pure _ | split)
theorem quiet_fd {t : TypeId} {f : Nat} {x : V} : AllL Quiet (fieldO P t f x) := by
  unfold fieldO
  repeat' (first | trivial | exact quiet_bindv _ | split)
theorem quiet_ia {h : Heap} {t : TypeId} {x y : V} : AllL Quiet (indexAddrO P h t x y) := by
  unfold indexAddrO
  repeat' (first | trivial | exact quiet_pure _ | exact quiet_test (quiet_pure _) trivial | exact ⟨quiet_pure _, trivial⟩ | exact quiet_arr (fun _ => quiet_pure _) _ _ | split)
theorem quiet_ix {t : TypeId} {x y : V} : AllL Quiet (indexO P t x y) := by
  unfold indexO
  have one : ∀ (xs : List C) (e : TypeId) (j : Nat), AllL Quiet (if (P.underlying e).isSome = true ∧ j * tsz P e + tsz P e ≤ xs.length then (mkV (aggT P e) ((xs.drop (j * tsz P e)).take (tsz P e))).bind fun v => Tree.leaf ({ v := v } : Out) else .fail) := fun xs e j => quiet_if (quiet_bindv _) trivial
  have arr : ∀ (xs : List C) (e : TypeId) (i : Int) (n : Nat), AllL Quiet (arrCases (fun j => if (P.underlying e).isSome = true ∧ j * tsz P e + tsz P e ≤ xs.length then (mkV (aggT P e) ((xs.drop (j * tsz P e)).take (tsz P e))).bind fun v => Tree.leaf ({ v := v } : Out) else .fail) i n 0) := fun xs e i n => quiet_arr (one xs e) n 0
  repeat' (first | trivial | exact quiet_pure _ | exact ⟨quiet_pure _, trivial⟩ | exact quiet_if (quiet_if (quiet_bindv _) trivial) trivial | exact quiet_if (quiet_bindv _) trivial | exact arr _ _ _ _ | exact quiet_if (one _ _ _) trivial | split)
theorem quiet_lk {h : Heap} {t : TypeId} {ok : Bool} {x y : V} : AllL Quiet (lookupO P h t ok x y) := by
  unfold lookupO
  repeat' (first | trivial | exact quiet_lookupR | split)
theorem quiet_sl {h : Heap} {t : TypeId} {lo hi : Option V} {x : V} : AllL Quiet (sliceO P h t lo hi x) := by
  unfold sliceO
  repeat' (first | trivial | exact quiet_test (quiet_pure _) trivial | exact ⟨quiet_pure _, trivial⟩ | split)
theorem quiet_len {h : Heap} {t : TypeId} {x : V} : AllL Quiet (lenO P h t x) := by
  unfold lenO
  repeat' (first | trivial | exact quiet_pure _ | split)
theorem quiet_blt {h : Heap} {nid : Nat} {ts : List TypeId} {vs : List V} : AllL Quiet (builtinO P h nid .len ts vs) := by
  unfold builtinO
  repeat' (first | trivial | exact quiet_len | contradiction | split)
theorem quiet_op {val : Operand → V} {h : Heap} {nid : Nat} : (op : Go.Op) → quietOp op = true → AllL Quiet (evOp P E val h nid op)
  | .move _, _ => quiet_v _
  | .assign _, _ => quiet_v _
  | .pick .., _ => quiet_pick
  | .load .., _ => quiet_load
  | .nilCheck x, _ => by
    show AllL Quiet (match val x with
      | .c (.ref id off) => pureO (.ref id off)
      | .c (.rref id e j) => pureO (.rref id e j)
      | .c (.lref cs l e j) => pureO (.lref cs l e j)
      | .c (.fn k c) => pureO (.fn k c)
      | _ => .fail)
    split <;> first | exact quiet_pure _ | trivial
  | .binOp .., _ => quiet_bin
  | .unOp .., _ => quiet_un
  | .convert .., _ => quiet_conv
  | .fieldAddr .., _ => quiet_fa
  | .field .., _ => quiet_fd
  | .indexAddr .., _ => quiet_ia
  | .index .., _ => quiet_ix
  | .lookup .., _ => quiet_lk
  | .extract x i, _ => by
    show AllL Quiet (match val x with
      | .tup vs => match vs[i]? with
        | some w => .leaf { v := w.toV }
        | none => .fail
      | _ => .fail)
    split
    · split
      · exact quiet_v _
      · trivial
    · trivial
  | .slice t x lo hi mx, _ => by
    cases mx with
    | none => exact quiet_sl
    | some _ => trivial
  | .makeFunc fn first caps, _ => by
    cases fn with
    | func k =>
      show AllL Quiet (if first.isEmpty then match (caps.toList.mapM fun c => match val c with
          | .c (.ref id off) => some (id, off)
          | _ => none) with
        | some cs => pureO (.fn k cs)
        | none => .fail
        else .fail)
      split
      · split
        · exact quiet_pure _
        · trivial
      · trivial
    | _ => trivial
  | .call c, hq => by
    obtain ⟨callee, args, ats⟩ := c
    cases callee with
    | builtin b => cases b <;> first | exact quiet_blt | cases hq
    | _ => cases hq
theorem quiet_put {s : St} {dst : Option Nat} {out : Out} (h : Quiet out) : (s.put dst out).hp = s.hp := by
  simp [St.put, h.1, h.2, setAll]
theorem agreeQ_put {q : Bool} {ds : List Nat} {s0 s : St} {dst : Option Nat} {out : Out} (hd : ∀ d, dst = some d → d ∈ ds) (ho : q = true → Quiet out) (h : AgreeQ q ds s0 s) : AgreeQ q ds s0 (s.put dst out) :=
  ⟨agree_put hd h.1, fun hq => (quiet_put (ho hq)).trans (h.2 hq)⟩
theorem all_guard {α : Type} {Q : α → Prop} {q : Bool} {all : List Oper} {ds : List Nat} (hall : ∀ o, o ∈ all → ∀ d, o.dst = some d → d ∈ ds) {o : Oper} {s0 s : St} {go skip : List Nat → St → Tree α} (h : AgreeQ q ds s0 s) (h1 : ∀ g s, AgreeQ q ds s0 s → AllL Q (go g s)) (h2 : ∀ g s, AgreeQ q ds s0 s → AllL Q (skip g s)) : AllL Q (onGuard all o s go skip) := by
  unfold onGuard
  split
  · exact h1 _ _ h
  · rename_i j want _
    split
    · trivial
    · rename_i g hg
      have hgm : g ∈ ds := by
        unfold guardTmp at hg
        cases hq : all[j]? with
        | none => rw [hq] at hg; cases hg
        | some o' => rw [hq] at hg; exact hall o' (List.mem_of_getElem? hq) g hg
      split
      · cases want <;> first | exact h1 _ _ h | exact h2 _ _ h
      · cases want <;> first | exact h1 _ _ h | exact h2 _ _ h
      · refine ⟨?_, ?_⟩ <;> cases want <;> first | exact h1 _ _ ⟨agree_set hgm h.1, h.2⟩ | exact h2 _ _ ⟨agree_set hgm h.1, h.2⟩
      · exact h2 _ _ h
      · trivial
theorem all_evOps {q : Bool} {all : List Oper} {ds : List Nat} (hall : ∀ o, o ∈ all → ∀ d, o.dst = some d → d ∈ ds) {s0 : St} : (l : List Oper) → (∀ o, o ∈ l → (∀ d, o.dst = some d → d ∈ ds) ∧ (q = true → quietOp o.op = true)) → (s : St) → AgreeQ q ds s0 s → AllL (AgreeQ q ds s0) (evOps P E all l s)
  | [], _, s, h => h
  | o :: r, hl, s, h => by
    unfold evOps
    refine all_guard hall h (fun g s h => ?_) fun g s h => ?_
    · refine AllL.bind (Q' := AgreeQ q ds s0) (fun s h => all_evOps hall r (fun o' ho' => hl o' (List.mem_cons_of_mem _ ho')) s h) ?_
      unfold evExec
      refine AllL.bind (Q' := fun out => q = true → Quiet out) (fun out ho => ?_) ?_
      · cases updIn s.hp out with
        | true => exact agreeQ_put (hl o (List.mem_cons_self ..)).1 ho h
        | false => trivial
      · cases q with
        | true => exact AllL.bindId (fun out h _ => h) (quiet_op _ ((hl o (List.mem_cons_self ..)).2 rfl))
        | false => exact AllL.bindId (fun out _ h => by cases h) (AllL.triv _)
    · exact all_evOps hall r (fun o' ho' => hl o' (List.mem_cons_of_mem _ ho')) _ (agreeQ_put (hl o (List.mem_cons_self ..)).1 (fun _ => ⟨rfl, rfl⟩) h)
theorem all_evOpsD {q : Bool} {all : List Oper} {ds : List Nat} (hall : ∀ o, o ∈ all → ∀ d, o.dst = some d → d ∈ ds) {s0 : St} : (l : List Oper) → (∀ o, o ∈ l → (∀ d, o.dst = some d → d ∈ ds) ∧ (q = true → quietOp o.op = true)) → (s : St) → AgreeQ q ds s0 s → AllL (fun x => AgreeQ q ds s0 x.1) (evOpsD P E all l s)
  | [], _, s, h => h
  | o :: r, hl, s, h => by
    unfold evOpsD
    refine all_guard hall h (fun g s h => ?_) fun g s h => ?_
    · refine AllL.bind (Q' := fun x => AgreeQ q ds s0 x.1) (fun x h => AllL.bind (Q' := fun x => AgreeQ q ds s0 x.1) (fun y hy => by exact hy) (all_evOpsD hall r (fun o' ho' => hl o' (List.mem_cons_of_mem _ ho')) x.1 h)) ?_
      unfold evExecD
      split
      · trivial
      · rename_i τ _
        refine AllL.bind (Q' := fun out => q = true → Quiet out) (fun out ho => ?_) ?_
        · cases (updIn s.hp out && out.upd.all fun p => hasN τ p.1) with
          | true => exact agreeQ_put (hl o (List.mem_cons_self ..)).1 ho h
          | false => trivial
        · cases q with
          | true => exact AllL.bindId (fun out h _ => h) (quiet_op _ ((hl o (List.mem_cons_self ..)).2 rfl))
          | false => exact AllL.bindId (fun out _ h => by cases h) (AllL.triv _)
    · exact AllL.bind (Q' := fun x => AgreeQ q ds s0 x.1) (fun y hy => by exact hy) (all_evOpsD hall r (fun o' ho' => hl o' (List.mem_cons_of_mem _ ho')) _ (agreeQ_put (hl o (List.mem_cons_self ..)).1 (fun _ => ⟨rfl, rfl⟩) h))
theorem all_region {ops : Array Oper} {draw : Bool} {s : St} : AllL (AgreeQ (quietOps ops) (dstsOf ops) s) (evRegion P E ops draw s) := by
  have hall : ∀ o, o ∈ ops.toList → ∀ d, o.dst = some d → d ∈ dstsOf ops := fun o ho d hd => List.mem_filterMap.2 ⟨o, ho, hd⟩
  have hall2 : ∀ o, o ∈ ops.toList → (∀ d, o.dst = some d → d ∈ dstsOf ops) ∧ (quietOps ops = true → quietOp o.op = true) := fun o ho => ⟨hall o ho, fun hq => List.all_eq_true.1 hq o ho⟩
  unfold evRegion
  cases draw with
  | false => exact all_evOps hall _ hall2 s ⟨fun _ _ => rfl, fun _ => rfl⟩
  | true =>
    rw [cond_true]
    refine AllL.bind (Q' := fun x => AgreeQ (quietOps ops) (dstsOf ops) s x.1) (fun x hx => ?_) (all_evOpsD hall _ hall2 s ⟨fun _ _ => rfl, fun _ => rfl⟩)
    cases (edgesOk ops.toList 0 && ordered (aheads ops.toList []) x.2 0) with
    | true => exact hx
    | false => trivial
theorem all_kept {ops : Array Oper} {draw : Bool} {s : St} (keep : Nat) : AllL (AgreeQ (quietOps ops) (dstsOf ops) (keepSt keep s)) ((evRegion P E ops draw s).bind fun s' => .leaf (keepSt keep s')) := by
  refine AllL.bind (Q' := AgreeQ (quietOps ops) (dstsOf ops) s) (fun x hx => ?_) all_region
  refine ⟨?_, hx.2⟩
  intro q hq
  show tget (filterT (bitOf keep) x.tm) q = tget (filterT (bitOf keep) s.tm) q
  rw [tget_filter, tget_filter, hx.1 q hq]
end
end Go.Eng
