/- The engine, part 19: regions that draw their order. -/
import Derived.Test.YtnngcneobkfijaaE18
import Derived.Orders
set_option linter.unusedSimpArgs false
set_option linter.unusedVariables false
namespace Go.Eng
section
variable {P : Program} {E : Env} {w : World} {I : Nat → Prop} {ρ : Rho} {n : Nat} {a : Act}

structure Stp where
  o : Oper
  nid : Nat
  out : Out
  rc : Rec
  run : Bool
  s : St

def appV (st : Stp) (f : Vw) : Vw := f.after st.o.dst st.nid st.out
def viewOf (S : Nat → Bool) : List Stp → Nat → Vw → Vw
  | [], _, f => f
  | st :: r, i, f => viewOf S r (i + 1) (bif S i then appV st f else f)
def allV : List Stp → Vw → Vw
  | [], f => f
  | st :: r, f => allV r (appV st f)
def touches (st : Stp) (id : Nat) : Prop := id ∈ st.out.upd.map (·.1) ∨ (st.nid ≤ id ∧ id < st.nid + st.out.new.length)

structure StpOk (P : Program) (E : Env) (all : List Oper) (st : Stp) (f : Vw) : Prop where
  ref : RefV f (vw st.s)
  nid : st.nid = st.s.hp.length
  guard : ∃ g, GuardIs all (tget st.s.tm) st.o st.run g ∧ ∀ t, t ∈ g → t ∈ st.rc.looks
  dst : st.rc.dst = st.o.dst
  skip : st.run = false → st.out = { v := .c .undef }
  exec : st.run = true → ∃ τ, (evOp P E (maskV (opTmps st.o.op) st.s.tm) (maskH τ st.s.hp) st.nid st.o.op).run = some st.out ∧ (∀ id, id ∈ τ → id ∈ st.rc.touch) ∧ (∀ t, t ∈ opTmps st.o.op → t ∈ st.rc.looks)
  touch : ∀ id, touches st id → id ∈ st.rc.touch ∧ st.rc.writes = true

def Chain : Nat → List Stp → Nat → Prop
  | L, [], L' => L' = L
  | L, st :: r, L' => st.nid = L ∧ Chain (L + st.out.new.length) r L'

theorem Chain.le : {steps : List Stp} → {L L' : Nat} → Chain L steps L' → L ≤ L'
  | [], _, _, h => Nat.le_of_eq h.symm
  | _ :: _, _, _, h => by have := Chain.le h.2; omega
theorem Chain.mem : {steps : List Stp} → {L L' : Nat} → Chain L steps L' → ∀ {i : Nat} {st : Stp}, steps[i]? = some st → L ≤ st.nid ∧ st.nid + st.out.new.length ≤ L'
  | [], _, _, _, i, st, h => by simp at h
  | x :: r, L, L', hc, i, st, h => by
    obtain ⟨h1, h2⟩ := hc
    cases i with
    | zero => simp at h; subst h; have := Chain.le h2; omega
    | succ i =>
      have := Chain.mem h2 (i := i) (st := st) (by simpa using h)
      omega
theorem Chain.apart : {steps : List Stp} → {L L' : Nat} → Chain L steps L' → ∀ {i j : Nat} {st st' : Stp}, i < j → steps[i]? = some st → steps[j]? = some st' → st.nid + st.out.new.length ≤ st'.nid
  | [], _, _, _, i, _, st, _, _, h, _ => by simp at h
  | x :: r, L, L', hc, i, j, st, st', hlt, h, h' => by
    obtain ⟨h1, h2⟩ := hc
    cases j with
    | zero => omega
    | succ j =>
      cases i with
      | zero =>
        simp at h; subst h
        have := Chain.mem h2 (i := j) (st := st') (by simpa using h')
        omega
      | succ i => exact Chain.apart h2 (i := i) (j := j) (by omega) (by simpa using h) (by simpa using h')

theorem mask_at (τ : List Nat) (h : Heap) (id : Nat) (o : Obj) (hm : (maskH τ h).at? id = some o) : id ∈ τ ∧ h.at? id = some o := by
  unfold maskH Heap.at? at hm
  rw [List.getElem?_map, List.getElem?_zipIdx] at hm
  cases hq : h[id]? with
  | none => rw [hq] at hm; simp at hm
  | some x =>
    rw [hq] at hm
    simp only [Option.map_some, Nat.zero_add] at hm
    cases hc : hasN τ id with
    | true =>
      rw [hc] at hm
      simp only [cond_true, Option.join_some] at hm
      refine ⟨by simpa using hc, ?_⟩
      unfold Heap.at?
      rw [hq]; exact hm
    | false =>
      rw [hc] at hm
      simp at hm

theorem mem_cons_all {α : Type} {p : α → Bool} {l : List α} (h : l.all p = true) {x : α} (hx : x ∈ l) : p x = true := List.all_eq_true.1 h x hx

theorem trace {all : List Oper} : (l : List Oper) → (s s' : St) → (rs : List Rec) → (evOpsD P E all l s).run = some (s', rs) → (f : Vw) → RefV f (vw s) →
    ∃ steps : List Stp, steps.map (·.rc) = rs ∧ steps.map (·.o) = l ∧ RefV (allV steps f) (vw s') ∧ Chain s.hp.length steps s'.hp.length ∧ ∀ i st, steps[i]? = some st → StpOk P E all st (allV (steps.take i) f)
  | [], s, s', rs, he, f, hf => by
    have := leaf_run he
    cases this
    exact ⟨[], rfl, rfl, hf, rfl, fun i st h => by simp at h⟩
  | o :: r, s, s', rs, he, f, hf => by
    simp only [evOpsD] at he
    obtain ⟨s1, g, h1, h2, h3⟩ := onGuard_run he
    rcases h3 with ⟨h3, h4⟩ | ⟨h3, h4⟩
    · obtain ⟨⟨s2, rec⟩, h5, h6⟩ := bind_run h4
      obtain ⟨⟨s3, rs'⟩, h7, h8⟩ := bind_run h6
      cases leaf_run h8
      unfold evExecD at h5
      split at h5
      · exact (fail_run h5).elim
      · rename_i τ hτ
        obtain ⟨out, h9, h10⟩ := bind_run h5
        cases hb : (updIn s1.hp out && out.upd.all fun p => hasN τ p.1) with
        | false => rw [hb] at h10; exact (fail_run h10).elim
        | true =>
          rw [hb] at h10
          cases leaf_run h10
          simp only [Bool.and_eq_true] at hb
          obtain ⟨k1, k2⟩ := vw_put hb.1 o.dst
          let st : Stp := { o := o, nid := s1.hp.length, out := out, rc := { touch := τ ++ (List.range out.new.length).map (s1.hp.length + ·), writes := !(out.upd.isEmpty && out.new.isEmpty), looks := opTmps o.op ++ g, dst := o.dst }, run := true, s := s1 }
          have hr2 : RefV (appV st f) (vw (s1.put o.dst out)) := by
            rw [k1]
            exact (hf.trans h1).after _ _ _
          obtain ⟨steps, m1, m2, m3, m4, m5⟩ := trace r _ s3 rs' h7 (appV st f) hr2
          refine ⟨st :: steps, by simp [m1, st], by simp [m2, st], m3, ⟨by rw [← h2], by rw [k2] at m4; rw [← h2]; exact m4⟩, fun i st' hi => ?_⟩
          cases i with
          | zero =>
            simp at hi
            subst hi
            refine ⟨hf.trans h1, rfl, ⟨g, h3, fun t ht => by simp [st, ht]⟩, rfl, (fun h => by cases h), fun _ => ⟨τ, h9, fun id hid => by simp [st, hid], fun t ht => by simp [st, ht]⟩, fun id hid => ?_⟩
            rcases hid with hid | hid
            · obtain ⟨p, hp, rfl⟩ := List.mem_map.1 hid
              have := mem_cons_all hb.2 hp
              simp at this
              refine ⟨by simp [st, this], ?_⟩
              have : out.upd ≠ [] := fun e => by simp only [st] at hp; rw [e] at hp; cases hp
              simp [st, this]
            · simp only [st] at hid ⊢
              refine ⟨List.mem_append_right _ (List.mem_map.2 ⟨id - s1.hp.length, by simp; omega, by omega⟩), ?_⟩
              have : out.new ≠ [] := fun e => by rw [e] at hid; simp at hid; omega
              simp [this]
          | succ i =>
            simp only [List.take_succ_cons, allV]
            exact m5 i st' (by simpa using hi)
    · obtain ⟨⟨s3, rs'⟩, h7, h8⟩ := bind_run h4
      cases leaf_run h8
      obtain ⟨k1, k2⟩ := vw_put (s := s1) (updIn_nil s1.hp (.c .undef)) o.dst
      let st : Stp := { o := o, nid := s1.hp.length, out := { v := .c .undef }, rc := { touch := [], writes := false, looks := g, dst := o.dst }, run := false, s := s1 }
      have hr2 : RefV (appV st f) (vw (evSkip o s1)) := by
        rw [evSkip, k1]
        exact (hf.trans h1).after _ _ _
      obtain ⟨steps, m1, m2, m3, m4, m5⟩ := trace r _ s3 rs' h7 (appV st f) hr2
      refine ⟨st :: steps, by simp [m1, st], by simp [m2, st], m3, ⟨by rw [← h2], by rw [evSkip, k2] at m4; rw [← h2]; exact m4⟩, fun i st' hi => ?_⟩
      cases i with
      | zero =>
        simp at hi
        subst hi
        refine ⟨hf.trans h1, rfl, ⟨g, h3, fun t ht => ht⟩, rfl, fun _ => rfl, (fun h => by cases h), fun id hid => ?_⟩
        rcases hid with hid | hid
        · simp [st] at hid
        · simp [st] at hid; omega
      | succ i =>
        simp only [List.take_succ_cons, allV]
        exact m5 i st' (by simpa using hi)

/- effects -/
theorem updO_in : (upd : List (Nat × Option Obj)) → (f g : Nat → Option Obj) → (id : Nat) → id ∈ upd.map (·.1) → updO f upd id = updO g upd id
  | [], _, _, _, h => by simp at h
  | (i, o) :: r, f, g, id, h => by
    simp only [updO]
    by_cases hr : id ∈ r.map (·.1)
    · exact updO_in r _ _ id hr
    · have e : id = i := by
        rcases List.mem_cons.1 h with h | h
        · exact h
        · exact absurd h hr
      rw [updO_out r _ id hr, updO_out r _ id hr, if_pos e, if_pos e]
where updO_out : (upd : List (Nat × Option Obj)) → (f : Nat → Option Obj) → (id : Nat) → id ∉ upd.map (·.1) → updO f upd id = f id
  | [], _, _, _ => rfl
  | (i, o) :: r, f, id, h => by
    simp only [List.map_cons, List.mem_cons, not_or] at h
    simp only [updO]
    rw [updO_out r _ id h.2, if_neg h.1]

theorem ob_out {st : Stp} {id : Nat} (h : ¬ touches st id) (f : Vw) : (appV st f).ob id = f.ob id := by
  unfold touches at h
  simp only [appV, Vw.after, newO]
  rw [if_neg (fun hh => h (.inr hh)), updO_in.updO_out _ _ _ fun hh => h (.inl hh)]
theorem ob_in {st : Stp} {id : Nat} (h : touches st id) (f g : Vw) : (appV st f).ob id = (appV st g).ob id := by
  simp only [appV, Vw.after, newO]
  split
  · rfl
  · rename_i hn
    rcases h with h | h
    · exact updO_in _ _ _ _ h
    · exact absurd h hn
theorem tm_out {st : Stp} {t : Nat} (h : st.o.dst ≠ some t) (f : Vw) : (appV st f).tm t = f.tm t := by
  simp only [appV, Vw.after]
  cases hd : st.o.dst with
  | none => rfl
  | some d =>
    simp only
    rw [if_neg (fun e => h (by rw [hd, e]))]
theorem tm_in {st : Stp} {t : Nat} (h : st.o.dst = some t) (f g : Vw) : (appV st f).tm t = (appV st g).tm t := by
  simp [appV, Vw.after, h]

structure Apart (st st' : Stp) : Prop where
  dst : ∀ t, st.o.dst = some t → st'.o.dst ≠ some t
  ob : ∀ id, touches st id → ¬ touches st' id

theorem Vw.ext' {f g : Vw} (h1 : ∀ t, f.tm t = g.tm t) (h2 : ∀ id, f.ob id = g.ob id) : f = g := by
  obtain ⟨a, b⟩ := f
  obtain ⟨c, d⟩ := g
  simp only at h1 h2
  rw [funext h1, funext h2]

theorem Apart.comm {st st' : Stp} (h : Apart st st') (f : Vw) : appV st (appV st' f) = appV st' (appV st f) := by
  refine Vw.ext' (fun t => ?_) (fun id => ?_)
  · by_cases h1 : st.o.dst = some t
    · rw [tm_out (h.dst t h1), tm_in h1 (appV st' f) f]
    · rw [tm_out h1]
      by_cases h2 : st'.o.dst = some t
      · exact tm_in h2 _ _
      · rw [tm_out h2, tm_out h2, tm_out h1]
  · by_cases h1 : touches st id
    · rw [ob_out (h.ob id h1), ob_in h1 (appV st' f) f]
    · rw [ob_out h1]
      by_cases h2 : touches st' id
      · exact ob_in h2 _ _
      · rw [ob_out h2, ob_out h2, ob_out h1]

theorem viewOf_comm {S S' : Nat → Bool} {st : Stp} : (steps : List Stp) → (k : Nat) → (f : Vw) → (∀ j, k ≤ j → S' j = S j) → (∀ j st', steps[j]? = some st' → S (k + j) = true → Apart st st') → viewOf S' steps k (appV st f) = appV st (viewOf S steps k f)
  | [], _, _, _, _ => rfl
  | x :: r, k, f, hS, hA => by
    have hA' : ∀ j st', r[j]? = some st' → S (k + 1 + j) = true → Apart st st' := fun j st' h1 h2 => hA (j + 1) st' (by simpa using h1) (by rw [show k + (j + 1) = k + 1 + j by omega]; exact h2)
    simp only [viewOf]
    rw [hS k (Nat.le_refl _)]
    cases hk : S k with
    | true =>
      simp only [cond_true]
      rw [← (hA 0 x (by simp) (by simpa using hk)).comm]
      exact viewOf_comm r (k + 1) _ (fun j hj => hS j (by omega)) hA'
    | false => exact viewOf_comm r (k + 1) _ (fun j hj => hS j (by omega)) hA'

theorem viewOf_insert {S : Nat → Bool} {st : Stp} : (steps : List Stp) → (k i : Nat) → (f : Vw) → steps[i]? = some st → S (k + i) = false → (∀ j st', i < j → steps[j]? = some st' → S (k + j) = true → Apart st st') →
    viewOf (fun q => q == k + i || S q) steps k f = appV st (viewOf S steps k f)
  | [], _, _, _, h, _, _ => by simp at h
  | x :: r, k, 0, f, h, hi, hA => by
    simp at h
    subst h
    simp only [viewOf, Nat.add_zero, beq_self_eq_true, Bool.true_or, cond_true] at hi ⊢
    rw [hi]
    refine viewOf_comm r (k + 1) f (fun j hj => ?_) fun j st' h1 h2 => hA (j + 1) st' (by omega) (by simpa using h1) (by rw [show k + (j + 1) = k + 1 + j by omega]; exact h2)
    have : (j == k) = false := by simp; omega
    rw [this, Bool.false_or]
  | x :: r, k, i + 1, f, h, hi, hA => by
    have hk : (k == k + (i + 1)) = false := by simp
    simp only [viewOf, hk, Bool.false_or]
    have := viewOf_insert (S := S) (st := st) r (k + 1) i (bif S k then appV x f else f) (by simpa using h) (by rw [show k + 1 + i = k + (i + 1) by omega]; exact hi) fun j st' h0 h1 h2 => hA (j + 1) st' (by omega) (by simpa using h1) (by rw [show k + (j + 1) = k + 1 + j by omega]; exact h2)
    rw [show k + 1 + i = k + (i + 1) by omega] at this
    exact this

theorem viewOf_all {S : Nat → Bool} : (steps : List Stp) → (k : Nat) → (f : Vw) → (∀ j, j < steps.length → S (k + j) = true) → viewOf S steps k f = allV steps f
  | [], _, _, _ => rfl
  | x :: r, k, f, h => by
    have := h 0 (by simp)
    simp only [Nat.add_zero] at this
    simp only [viewOf, allV, this, cond_true]
    exact viewOf_all r (k + 1) _ fun j hj => by rw [show k + 1 + j = k + (j + 1) by omega]; exact h (j + 1) (by simpa using hj)

theorem viewOf_tm_out {S : Nat → Bool} {t : Nat} : (steps : List Stp) → (k : Nat) → (f : Vw) → (∀ j st, steps[j]? = some st → S (k + j) = true → st.o.dst ≠ some t) → (viewOf S steps k f).tm t = f.tm t
  | [], _, _, _ => rfl
  | x :: r, k, f, h => by
    simp only [viewOf]
    rw [viewOf_tm_out r (k + 1) _ fun j st h1 h2 => h (j + 1) st (by simpa using h1) (by rw [show k + (j + 1) = k + 1 + j by omega]; exact h2)]
    cases hk : S k with
    | true => exact tm_out (h 0 x (by simp) (by simpa using hk)) f
    | false => rfl
theorem viewOf_ob_out {S : Nat → Bool} {id : Nat} : (steps : List Stp) → (k : Nat) → (f : Vw) → (∀ j st, steps[j]? = some st → S (k + j) = true → ¬ touches st id) → (viewOf S steps k f).ob id = f.ob id
  | [], _, _, _ => rfl
  | x :: r, k, f, h => by
    simp only [viewOf]
    rw [viewOf_ob_out r (k + 1) _ fun j st h1 h2 => h (j + 1) st (by simpa using h1) (by rw [show k + (j + 1) = k + 1 + j by omega]; exact h2)]
    cases hk : S k with
    | true => exact ob_out (h 0 x (by simp) (by simpa using hk)) f
    | false => rfl

theorem agree_tm {S : Nat → Bool} {t : Nat} : (steps : List Stp) → (k i : Nat) → (f g : Vw) → f.tm t = g.tm t → (∀ j st, steps[j]? = some st → (S (k + j) = true ∧ i ≤ j ∨ S (k + j) = false ∧ j < i) → st.o.dst ≠ some t) →
    (viewOf S steps k f).tm t = (allV (steps.take i) g).tm t
  | steps, k, 0, f, g, hfg, h => by
    rw [List.take_zero, viewOf_tm_out steps k f fun j st h1 h2 => h j st h1 (.inl ⟨h2, Nat.zero_le _⟩)]
    exact hfg
  | [], k, i + 1, f, g, hfg, h => hfg
  | x :: r, k, i + 1, f, g, hfg, h => by
    simp only [viewOf, List.take_succ_cons, allV]
    refine agree_tm r (k + 1) i _ _ ?_ fun j st h1 h2 => h (j + 1) st (by simpa using h1) (by
      rw [show k + (j + 1) = k + 1 + j by omega]
      rcases h2 with ⟨h2, h3⟩ | ⟨h2, h3⟩
      · exact .inl ⟨h2, by omega⟩
      · exact .inr ⟨h2, by omega⟩)
    cases hk : S k with
    | true =>
      simp only [cond_true]
      by_cases hd : x.o.dst = some t
      · exact tm_in hd f g
      · rw [tm_out hd, tm_out hd, hfg]
    | false =>
      simp only [cond_false]
      rw [tm_out (h 0 x (by simp) (.inr ⟨by simpa using hk, by omega⟩)), hfg]
theorem agree_ob {S : Nat → Bool} {id : Nat} : (steps : List Stp) → (k i : Nat) → (f g : Vw) → f.ob id = g.ob id → (∀ j st, steps[j]? = some st → (S (k + j) = true ∧ i ≤ j ∨ S (k + j) = false ∧ j < i) → ¬ touches st id) →
    (viewOf S steps k f).ob id = (allV (steps.take i) g).ob id
  | steps, k, 0, f, g, hfg, h => by
    rw [List.take_zero, viewOf_ob_out steps k f fun j st h1 h2 => h j st h1 (.inl ⟨h2, Nat.zero_le _⟩)]
    exact hfg
  | [], k, i + 1, f, g, hfg, h => hfg
  | x :: r, k, i + 1, f, g, hfg, h => by
    simp only [viewOf, List.take_succ_cons, allV]
    refine agree_ob r (k + 1) i _ _ ?_ fun j st h1 h2 => h (j + 1) st (by simpa using h1) (by
      rw [show k + (j + 1) = k + 1 + j by omega]
      rcases h2 with ⟨h2, h3⟩ | ⟨h2, h3⟩
      · exact .inl ⟨h2, by omega⟩
      · exact .inr ⟨h2, by omega⟩)
    cases hk : S k with
    | true =>
      simp only [cond_true]
      by_cases hd : touches x id
      · exact ob_in hd f g
      · rw [ob_out hd, ob_out hd, hfg]
    | false =>
      simp only [cond_false]
      rw [ob_out (h 0 x (by simp) (.inr ⟨by simpa using hk, by omega⟩)), hfg]

/- the order -/
theorem orderedAt_ok {ah : List Nat} {p : Rec} {i : Nat} : (rs : List Rec) → (j : Nat) → orderedAt ah p i rs j = true → ∀ (k : Nat) (q : Rec), rs[k]? = some q → p.clash q = true → (ah.getD (j + k) 0).testBit i = true
  | [], _, _, k, q, h, _ => by simp at h
  | x :: r, j, ho, 0, q, h, hc => by
    simp at h
    subst h
    simp only [orderedAt, Bool.and_eq_true, Bool.or_eq_true, Bool.not_eq_true', hc] at ho
    rcases ho.1 with h | h
    · exact h
    · cases h
  | x :: r, j, ho, k + 1, q, h, hc => by
    simp only [orderedAt, Bool.and_eq_true] at ho
    have := orderedAt_ok r (j + 1) ho.2 k q (by simpa using h) hc
    rwa [show j + 1 + k = j + (k + 1) by omega] at this
theorem ordered_ok {ah : List Nat} : (rs : List Rec) → (b : Nat) → ordered ah rs b = true → ∀ (i j : Nat) (p q : Rec), i < j → rs[i]? = some p → rs[j]? = some q → p.clash q = true → (ah.getD (b + j) 0).testBit (b + i) = true
  | [], _, _, i, _, p, _, _, h, _, _ => by simp at h
  | x :: r, b, ho, 0, j + 1, p, q, _, h, h', hc => by
    simp at h
    subst h
    simp only [ordered, Bool.and_eq_true] at ho
    have := orderedAt_ok r (b + 1) ho.1 j q (by simpa using h') hc
    rwa [show b + 1 + j = b + (j + 1) by omega] at this
  | x :: r, b, ho, i + 1, j + 1, p, q, hlt, h, h', hc => by
    simp only [ordered, Bool.and_eq_true] at ho
    have := ordered_ok r (b + 1) ho.2 i j p q (by omega) (by simpa using h) (by simpa using h') hc
    rwa [show b + 1 + j = b + (j + 1) by omega, show b + 1 + i = b + (i + 1) by omega] at this

theorem bit_or (a b x : Nat) : (Nat.lor a b).testBit x = (a.testBit x || b.testBit x) := Nat.testBit_or a b x

theorem mem_aheadOf {acc : List Nat} : (es : List Edge) → (x : Nat) → (aheadOf acc es).testBit x = true → ∃ e, e ∈ es ∧ Region.binds .any e = true ∧ (x = e.on ∨ (acc.getD e.on 0).testBit x = true)
  | [], x, h => by simp [aheadOf] at h
  | e :: r, x, h => by
    simp only [aheadOf] at h
    cases hb : Region.binds .any e with
    | false =>
      rw [hb] at h
      obtain ⟨e', h1, h2⟩ := mem_aheadOf r x h
      exact ⟨e', List.mem_cons_of_mem _ h1, h2⟩
    | true =>
      rw [hb] at h
      simp only [cond_true, bit_or, Bool.or_eq_true] at h
      rcases h with h | h | h
      · refine ⟨e, List.mem_cons_self .., hb, .inl ?_⟩
        rw [Nat.testBit_two_pow] at h
        exact (by simpa using h : e.on = x).symm
      · exact ⟨e, List.mem_cons_self .., hb, .inr h⟩
      · obtain ⟨e', h1, h2⟩ := mem_aheadOf r x h
        exact ⟨e', List.mem_cons_of_mem _ h1, h2⟩

def Preds (ops : Array Oper) (S : Nat → Bool) (i : Nat) : Prop := ∀ o, ops[i]? = some o → ∀ e, e ∈ o.after.toList → Region.binds .any e = true → S e.on = true

theorem aheads_ok {ops : Array Oper} {S : Nat → Bool} (hcl : ∀ i, S i = true → Preds ops S i) : (l : List Oper) → (acc : List Nat) → (∀ j, l[j]? = ops[acc.length + j]?) → (∀ k, k < acc.length → Preds ops S k → ∀ x, (acc.getD k 0).testBit x = true → S x = true) →
    ∀ k, Preds ops S k → ∀ x, ((aheads l acc).getD k 0).testBit x = true → S x = true
  | [], acc, _, hacc, k, hp, x, hx => by
    simp only [aheads] at hx
    by_cases hk : k < acc.length
    · exact hacc k hk hp x hx
    · rw [List.getD_eq_getElem?_getD, List.getElem?_eq_none (by omega)] at hx
      simp at hx
  | o :: r, acc, hl, hacc, k, hp, x, hx => by
    simp only [aheads] at hx
    refine aheads_ok hcl r (acc ++ [aheadOf acc o.after.toList]) (fun j => ?_) (fun q hq hpq y hy => ?_) k hp x hx
    · have := hl (j + 1)
      simp at this ⊢
      rw [this]
      congr 1
      omega
    · simp only [List.length_append, List.length_singleton] at hq
      by_cases hlt : q < acc.length
      · rw [List.getD_eq_getElem?_getD, List.getElem?_append_left hlt, ← List.getD_eq_getElem?_getD] at hy
        exact hacc q hlt hpq y hy
      · have e : q = acc.length := by omega
        subst e
        rw [List.getD_eq_getElem?_getD, List.getElem?_append_right (Nat.le_refl _)] at hy
        simp only [Nat.sub_self, List.getElem?_cons_zero, Option.getD_some] at hy
        obtain ⟨e, h1, h2, h3⟩ := mem_aheadOf _ _ hy
        have ho : ops[acc.length]? = some o := by have := hl 0; simpa using this.symm
        have hS := hpq o ho e (by simpa using h1) h2
        rcases h3 with rfl | h3
        · exact hS
        · have hlt' : e.on < acc.length := by
            rcases Nat.lt_or_ge e.on acc.length with h | h
            · exact h
            · rw [List.getD_eq_getElem?_getD, List.getElem?_eq_none h] at h3; simp at h3
          exact hacc e.on hlt' (hcl _ hS) y h3

theorem edgesOk_spec {ops : Array Oper} : (l : List Oper) → (i : Nat) → edgesOk l i = true → (∀ j, l[j]? = ops[i + j]?) → ∀ j o, l[j]? = some o → ∀ e, e ∈ o.after.toList → Region.binds .any e = true → e.on < i + j
  | [], _, _, _, j, o, h, _, _, _ => by simp at h
  | x :: r, i, he, hl, 0, o, h, e, h1, h2 => by
    simp at h
    subst h
    simp only [edgesOk, Bool.and_eq_true] at he
    have := List.all_eq_true.1 he.1 e h1
    simp [h2] at this
    omega
  | x :: r, i, he, hl, j + 1, o, h, e, h1, h2 => by
    simp only [edgesOk, Bool.and_eq_true] at he
    have := edgesOk_spec (ops := ops) r (i + 1) he.2 (fun q => by have := hl (q + 1); simpa [Nat.add_assoc, Nat.add_comm 1] using this) j o (by simpa using h) e h1 h2
    omega

theorem clash_apart {P : Program} {E : Env} {all : List Oper} {st st' : Stp} {f f' : Vw} (h : StpOk P E all st f) (h' : StpOk P E all st' f') (hc : st.rc.clash st'.rc = false) :
    Apart st st' ∧ (∀ t, t ∈ st'.rc.looks → st.o.dst ≠ some t) ∧ (∀ t, t ∈ st.rc.looks → st'.o.dst ≠ some t) ∧ (∀ id, id ∈ st'.rc.touch → ¬ touches st id) ∧ (∀ id, id ∈ st.rc.touch → ¬ touches st' id) := by
  simp only [Rec.clash, Bool.or_eq_false_iff, h.dst, h'.dst] at hc
  obtain ⟨⟨c1, c2⟩, c3⟩ := hc
  have t1 : ∀ id, id ∈ st'.rc.touch → ¬ touches st id := fun id h1 h2 => by
    obtain ⟨k1, k2⟩ := h.touch id h2
    simp [k2] at c1
    exact c1 id k1 h1
  have t2 : ∀ id, id ∈ st.rc.touch → ¬ touches st' id := fun id h1 h2 => by
    obtain ⟨k1, k2⟩ := h'.touch id h2
    simp [k2] at c1
    exact c1 id h1 k1
  refine ⟨⟨fun t h1 h2 => ?_, fun id h1 => t2 id (h.touch id h1).1⟩, fun t h1 h2 => ?_, fun t h1 h2 => ?_, t1, t2⟩
  · rw [h1] at c2
    simp [h2] at c2
  · rw [h2] at c2
    simp at c2
    exact c2.1 h1
  · rw [h2] at c3
    simp at c3
    exact c3 h1
end
end Go.Eng
