/- The engine, part 18: regions whose operations go one behind the other. -/
import Derived.Test.YtnngcneobkfijaaE17
set_option linter.unusedSimpArgs false
set_option linter.unusedVariables false
namespace Go.Eng
section
variable {P : Program} {E : Env} {w : World} {I : Nat → Prop} {ρ : Rho} {n : Nat} {a : Act}

noncomputable def vw (s : St) : Vw := ⟨tget s.tm, s.hp.at?⟩
structure RelS (n : Nat) (s : St) (ρ : Rho) (I : Nat → Prop) (a : Act) (w : World) : Prop where
  rel : RelF n (vw s) ρ I a w
  dom : ∀ id x, ρ id = some x → id < s.hp.length

theorem tget_tset (d : Nat) (v : V) : (tm : List (Nat × V)) → (t : Nat) → tget (tset tm d v) t = if t = d then v else tget tm t
  | [], t => by
    simp only [tset_nil, tget_cons, tget_nil]
    by_cases e : t = d
    · subst e; simp [Nat.beq_refl]
    · have : Nat.beq d t = false := by
        cases hb : Nat.beq d t with
        | true => exact absurd (Nat.eq_of_beq_eq_true hb).symm e
        | false => rfl
      simp [this, e]
  | (k, x) :: r, t => by
    rw [tset_cons]
    cases hk : Nat.beq k d with
    | true =>
      have := Nat.eq_of_beq_eq_true hk
      subst this
      simp only [cond_true, tget_cons]
      by_cases e : t = k
      · subst e; simp [Nat.beq_refl]
      · have : Nat.beq k t = false := by
          cases hb : Nat.beq k t with
          | true => exact absurd (Nat.eq_of_beq_eq_true hb).symm e
          | false => rfl
        simp [this, e]
    | false =>
      simp only [cond_false, tget_cons, tget_tset d v r t]
      by_cases e : t = d
      · subst e; simp [hk]
      · simp [e]

theorem at_append (h : Heap) (new : List Obj) : (h ++ new.map some).at? = newO h.at? h.length new := by
  funext i
  simp only [Heap.at?, newO]
  by_cases hi : i < h.length
  · rw [List.getElem?_append_left hi, if_neg (by omega)]
  · rw [List.getElem?_append_right (by omega), List.getElem?_map]
    by_cases h2 : i < h.length + new.length
    · rw [if_pos ⟨by omega, h2⟩]
      cases new[i - h.length]? <;> rfl
    · rw [if_neg (by omega), List.getElem?_eq_none (by omega), List.getElem?_eq_none (show h.length ≤ i by omega)]
      rfl

theorem setAll_at : (upd : List (Nat × Option Obj)) → (h : Heap) → (upd.all fun p => decide (p.1 < h.length)) = true → (setAll h upd).at? = updO h.at? upd ∧ (setAll h upd).length = h.length
  | [], h, _ => ⟨rfl, rfl⟩
  | (id, o) :: r, h, hu => by
    simp only [List.all_cons, Bool.and_eq_true, decide_eq_true_eq] at hu
    obtain ⟨k1, k2⟩ := setAll_at r (h.set id o) (by simpa using hu.2)
    simp only [setAll, updO]
    refine ⟨?_, by rw [k2, List.length_set]⟩
    rw [k1]
    congr 1
    funext i
    simp only [Heap.at?, List.getElem?_set]
    by_cases e : id = i
    · subst e; simp [hu.1]
    · rw [if_neg e, if_neg (fun h => e h.symm)]

theorem vw_put {s : St} {out : Out} (hu : updIn s.hp out = true) (dst : Option Nat) : vw (s.put dst out) = (vw s).after dst s.hp.length out ∧ (s.put dst out).hp.length = s.hp.length + out.new.length := by
  obtain ⟨k1, k2⟩ := setAll_at out.upd s.hp hu
  refine ⟨?_, by simp [St.put, k2]⟩
  simp only [vw, St.put, Vw.after]
  rw [at_append, k1, k2]
  congr 1
  cases dst with
  | none => rfl
  | some d => funext t; exact tget_tset d out.v s.tm t

theorem updIn_nil (h : Heap) (v : V) : updIn h { v := v } = true := rfl

/-- what a truth value lets -/
def RefB (v v' : V) : Prop := v' = v ∨ ∃ b, v = .c (.sb b) ∧ v' = .c (if b = true then .tt else .ff)
theorem RefB.rel {v v' : V} (h : RefB v v') {cv : Value} (hr : Rv w I ρ v cv) : Rv w I ρ v' cv := by
  rcases h with rfl | ⟨b, rfl, rfl⟩
  · exact hr
  · cases b <;> exact hr
structure RefV (f g : Vw) : Prop where
  tm : ∀ t, RefB (f.tm t) (g.tm t)
  ob : f.ob = g.ob
theorem RefB.refl (v : V) : RefB v v := .inl rfl
theorem RefB.trans {a b c : V} (h : RefB a b) (k : RefB b c) : RefB a c := by
  rcases h with rfl | ⟨x, rfl, rfl⟩
  · exact k
  · rcases k with rfl | ⟨y, h1, _⟩
    · exact .inr ⟨x, rfl, rfl⟩
    · cases x <;> cases h1
theorem RefV.refl (f : Vw) : RefV f f := ⟨fun _ => .refl _, rfl⟩
theorem RefV.trans {f g k : Vw} (h : RefV f g) (h' : RefV g k) : RefV f k := ⟨fun t => (h.tm t).trans (h'.tm t), h.ob.trans h'.ob⟩
theorem RelF.refine {f g : Vw} (h : RelF n f ρ I a w) (hr : RefV f g) : RelF n g ρ I a w := {
  heap := hr.ob ▸ h.heap
  defers := h.defers
  size := h.size
  tm := fun t => (hr.tm t).rel (h.tm t) }
theorem RefV.after {f g : Vw} (h : RefV f g) (dst : Option Nat) (nid : Nat) (out : Out) : RefV (f.after dst nid out) (g.after dst nid out) := by
  refine ⟨fun t => ?_, ?_⟩
  · cases dst with
    | none => exact h.tm t
    | some d =>
      simp only [Vw.after]
      by_cases e : t = d
      · rw [if_pos e, if_pos e]; exact .refl _
      · rw [if_neg e, if_neg e]; exact h.tm t
  · simp only [Vw.after, h.ob]

/-- does the guard let the operation? -/
def GuardIs (all : List Oper) (tm : Nat → V) (o : Oper) (b : Bool) (g : List Nat) : Prop :=
  (o.guard = none ∧ b = true) ∨ ∃ j want t c, o.guard = some (j, want) ∧ guardTmp all j = some t ∧ t ∈ g ∧ tm t = .c c ∧ ((c = .tt ∧ b = want) ∨ (c = .ff ∧ b = !want) ∨ (c = .undef ∧ b = false))

theorem refine_tset {s : St} {g : Nat} {b : Bool} (h : tget s.tm g = .c (.sb b)) : RefV (vw s) (vw { s with tm := tset s.tm g (.c (if b = true then .tt else .ff)) }) := by
  refine ⟨fun t => ?_, rfl⟩
  simp only [vw, tget_tset]
  by_cases e : t = g
  · subst e; rw [if_pos rfl, h]; exact .inr ⟨b, rfl, rfl⟩
  · rw [if_neg e]; exact .refl _

theorem onGuard_run {α : Type} {all : List Oper} {o : Oper} {s : St} {go skip : List Nat → St → Tree α} {x : α} (h : (onGuard all o s go skip).run = some x) :
    ∃ s1 g, RefV (vw s) (vw s1) ∧ s1.hp = s.hp ∧ ((GuardIs all (tget s1.tm) o true g ∧ (go g s1).run = some x) ∨ (GuardIs all (tget s1.tm) o false g ∧ (skip g s1).run = some x)) := by
  unfold onGuard at h
  split at h
  · rename_i hg; exact ⟨s, [], .refl _, rfl, .inl ⟨.inl ⟨hg, rfl⟩, h⟩⟩
  · rename_i j want hg
    split at h
    · exact (fail_run h).elim
    · rename_i t ht
      split at h
      · rename_i hv
        cases want with
        | true => exact ⟨s, [t], .refl _, rfl, .inl ⟨.inr ⟨j, true, t, _, hg, ht, by simp, hv, .inl ⟨rfl, rfl⟩⟩, h⟩⟩
        | false => exact ⟨s, [t], .refl _, rfl, .inr ⟨.inr ⟨j, false, t, _, hg, ht, by simp, hv, .inl ⟨rfl, rfl⟩⟩, h⟩⟩
      · rename_i hv
        cases want with
        | true => exact ⟨s, [t], .refl _, rfl, .inr ⟨.inr ⟨j, true, t, _, hg, ht, by simp, hv, .inr (.inl ⟨rfl, rfl⟩)⟩, h⟩⟩
        | false => exact ⟨s, [t], .refl _, rfl, .inl ⟨.inr ⟨j, false, t, _, hg, ht, by simp, hv, .inr (.inl ⟨rfl, rfl⟩)⟩, h⟩⟩
      · rename_i b hv
        have hr := refine_tset hv
        rcases node_run h with ⟨rfl, h⟩ | ⟨rfl, h⟩
        · have hv' : tget (tset s.tm t (.c .tt)) t = .c .tt := by rw [tget_tset, if_pos rfl]
          cases want with
          | true => exact ⟨_, [t], hr, rfl, .inl ⟨.inr ⟨j, true, t, _, hg, ht, by simp, hv', .inl ⟨rfl, rfl⟩⟩, h⟩⟩
          | false => exact ⟨_, [t], hr, rfl, .inr ⟨.inr ⟨j, false, t, _, hg, ht, by simp, hv', .inl ⟨rfl, rfl⟩⟩, h⟩⟩
        · have hv' : tget (tset s.tm t (.c .ff)) t = .c .ff := by rw [tget_tset, if_pos rfl]
          cases want with
          | true => exact ⟨_, [t], hr, rfl, .inr ⟨.inr ⟨j, true, t, _, hg, ht, by simp, hv', .inr (.inl ⟨rfl, rfl⟩)⟩, h⟩⟩
          | false => exact ⟨_, [t], hr, rfl, .inl ⟨.inr ⟨j, false, t, _, hg, ht, by simp, hv', .inr (.inl ⟨rfl, rfl⟩)⟩, h⟩⟩
      · rename_i hv
        exact ⟨s, [t], .refl _, rfl, .inr ⟨.inr ⟨j, want, t, _, hg, ht, by simp, hv, .inr (.inr ⟨rfl, rfl⟩)⟩, h⟩⟩
      · exact (fail_run h).elim

theorem guard_wanted {ops : Array Oper} {o : Oper} {b : Bool} {g : List Nat} {tm : Nat → V} (hg : GuardIs ops.toList tm o b g) (hr : ∀ t, t ∈ g → Rv w I ρ (tm t) (a.tmps.getD t Go.undef)) : Region.wanted o (yielded ops a.tmps) = b := by
  rcases hg with ⟨h1, rfl⟩ | ⟨j, want, t, c, h1, h2, h3, h4, h5⟩
  · simp [Region.wanted, h1]
  · have hv := hr t h3
    rw [h4] at hv
    have ht : (ops[j]?).bind (·.dst) = some t := by simpa [guardTmp] using h2
    have hy : ∀ v, a.tmps.getD t Go.undef = v → yielded ops a.tmps j = (match v with | .bool b => some b | _ => none) := by
      intro v hv
      simp only [yielded, ht, Option.bind_some]
      rw [Array.getD_eq_getD_getElem?] at hv
      cases hq : a.tmps[t]? with
      | none => rw [hq] at hv; subst hv; rfl
      | some u => rw [hq] at hv; simp at hv; subst hv; cases u <;> rfl
    simp only [Region.wanted, h1]
    rcases h5 with ⟨rfl, rfl⟩ | ⟨rfl, rfl⟩ | ⟨rfl, rfl⟩
    · rw [hy _ hv]; cases b <;> rfl
    · rw [hy _ hv]; cases want <;> rfl
    · rw [hy _ hv]; cases want <;> rfl

theorem RelS.skip {s : St} (h : RelS n s ρ I a w) {o : Oper} (hd : ∀ d, o.dst = some d → d < n) : RelS n (evSkip o s) ρ I (a.put o.dst Go.undef) w := by
  obtain ⟨k1, k2⟩ := vw_put (s := s) (updIn_nil s.hp (.c .undef)) o.dst
  refine ⟨?_, fun id x hx => ?_⟩
  · rw [evSkip, k1]
    simp only [Vw.after, updO, newO_nil]
    cases hdst : o.dst with
    | none => simpa [Act.put] using h.rel
    | some d => exact h.rel.put (hd d hdst) rfl
  · have := h.dom id x hx
    rw [evSkip, k2]
    omega

theorem evSkip_ob (o : Oper) (s : St) : (evSkip o s).hp.at? = s.hp.at? := by
  have := (vw_put (s := s) (updIn_nil s.hp (.c .undef)) o.dst).1
  have := congrArg Vw.ob this
  simpa [vw, Vw.after, updO, newO_nil, evSkip] using this

theorem evExec_ok {Q : Exit → Act → World → Prop} {o : Oper} {s s' : St} (hE : EnvOk P E) (hR : RelS n s ρ I a w) (hd : ∀ d, o.dst = some d → d < n) (he : (evExec P E o s).run = some s') {K : Act → World → Prop}
    (hK : ∀ a' w' ρ' I', Ext s.hp.at? ρ I w s'.hp.at? ρ' I' w' → RelS n s' ρ' I' a' w' → K a' w') : o.wp P a w K Q := by
  unfold evExec at he
  obtain ⟨out, h1, he⟩ := bind_run he
  cases hu : updIn s.hp out with
  | false => rw [hu] at he; exact (fail_run he).elim
  | true =>
    rw [hu] at he
    cases leaf_run he
    obtain ⟨k1, k2⟩ := vw_put hu o.dst
    have hgo := evOp_goes (P := P) (nid := s.hp.length) hR.rel (h := s.hp) (fun id o h => h) hd (vals_of hR.rel (tm := s.tm) fun _ => rfl) hE h1 (fun i hi _ => by
      cases hq : ρ i with
      | none => rfl
      | some x => have := hR.dom i x hq; omega)
    refine hgo K Q fun a' w' ρ' I' q1 q2 q3 => hK a' w' ρ' I' ?_ ⟨?_, fun id x hx => ?_⟩
    · rw [← k1] at q1; exact q1
    · rw [k1]; exact q3
    · rw [k2]
      rcases q2 id x hx with h | h
      · have := hR.dom id x h; omega
      · exact h.2

theorem evOps_ok {ops : Array Oper} (hE : EnvOk P E) (hdst : ∀ o, o ∈ ops.toList → ∀ d, o.dst = some d → d < n) {Q : Exit → Act → World → Prop} : (l : List Oper) → (i : Nat) → (∀ j, l[j]? = ops[i + j]?) → (s s' : St) → (evOps P E ops.toList l s).run = some s' →
    ∀ {a : Act} {w : World} {ρ : Rho} {I : Nat → Prop}, RelS n s ρ I a w → (∀ a' w' ρ' I', Ext s.hp.at? ρ I w s'.hp.at? ρ' I' w' → RelS n s' ρ' I' a' w' → Q .normal a' w') → wpOps P ops Q (List.range' i l.length) a w
  | [], i, _, s, s', he, a, w, ρ, I, hR, hQ => by
    cases leaf_run he
    exact hQ a w ρ I (Ext.refl _ _ _ _) hR
  | o :: r, i, hl, s, s', he, a, w, ρ, I, hR, hQ => by
    have ho : ops[i]? = some o := by have := hl 0; simpa using this.symm
    have hmem : o ∈ ops.toList := Array.mem_toList_iff.2 (Array.mem_of_getElem? ho)
    have hl' : ∀ j, r[j]? = ops[(i + 1) + j]? := fun j => by have := hl (j + 1); simpa [Nat.add_assoc, Nat.add_comm 1] using this
    simp only [evOps] at he
    obtain ⟨s1, g, h1, h2, h3⟩ := onGuard_run he
    have hR1 : RelS n s1 ρ I a w := ⟨hR.rel.refine h1, by rw [h2]; exact hR.dom⟩
    rw [List.length_cons, List.range'_succ]
    simp only [wpOps, ho]
    rcases h3 with ⟨h3, h4⟩ | ⟨h3, h4⟩
    · rw [guard_wanted h3 fun t _ => hR1.rel.tm t, if_pos rfl]
      obtain ⟨s2, h5, h6⟩ := bind_run h4
      left
      refine evExec_ok hE hR1 (hdst o hmem) h5 fun a' w' ρ' I' q1 q2 => ?_
      refine evOps_ok hE hdst r (i + 1) hl' s2 s' h6 q2 fun a'' w'' ρ'' I'' q3 q4 => hQ a'' w'' ρ'' I'' ?_ q4
      rw [h2] at q1
      exact q1.trans q3
    · rw [guard_wanted h3 fun t _ => hR1.rel.tm t, if_neg (by simp)]
      refine evOps_ok hE hdst r (i + 1) hl' _ s' h4 (hR1.skip (hdst o hmem)) fun a'' w'' ρ'' I'' q3 q4 => hQ a'' w'' ρ'' I'' ?_ q4
      rw [evSkip_ob, h2] at q3
      exact q3
end
end Go.Eng
