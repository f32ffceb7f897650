/- The engine, part 5: the operations that reckon: binary, unary, fields, indexes. -/
import Derived.Test.YtnngcneobkfijaaE4
set_option linter.unusedSimpArgs false
set_option linter.unusedVariables false
namespace Go.Eng
section
variable {P : Program} {w : World} {I : Nat → Prop} {ρ : Rho}

/-- what a quiet operation gives -/
def Gives (P : Program) (w : World) (I : Nat → Prop) (ρ : Rho) (s : Sem Value) (out : Out) : Prop := ∃ v V0, s.run P w = .ok v w ∧ out = { v := V0 } ∧ Rv w I ρ V0 v

theorem Gives.c {s : Sem Value} {c : C} {v : Value} (h : s.run P w = .ok v w) (hv : Rc w I ρ c v) : Gives P w I ρ s { v := .c c } := ⟨v, .c c, h, rfl, hv⟩

theorem run_eqGuard_plain {op : BinOp} {t : TypeId} {x y : Operand} {a b : Value} (h : ∀ xs, a ≠ .agg xs) (h' : a ≠ .nilIface) : (eqGuard op t x y a b).run P w = .ok () w := by
  cases op <;> simp only [eqGuard]
  all_goals
    try simp
  all_goals
    cases a <;> first | exact absurd rfl (h _) | exact absurd rfl h' | rfl

theorem equal_eq (t : TypeId) (x y : Value) : Op.equal t x y = Op.equalIn (9999 + 1) t x y := rfl
theorem run_equal_ptr {t e : TypeId} (ht : P.underlying t = some (.pointer e)) (p q : Option Addr) (d : Nat) {b : Bool} (h : (p = none ∧ b = q.isNone) ∨ (q = none ∧ b = p.isNone)) :
    (Op.equalIn (d + 1) t (.pointer p) (.pointer q)).run P w = .ok b w := by
  rcases h with ⟨rfl, rfl⟩ | ⟨rfl, rfl⟩
  · simp [Op.equalIn, run_underlying ht]
  · cases p <;> simp [Op.equalIn, run_underlying ht]
theorem run_equal_bool {t : TypeId} (ht : P.underlying t = some .bool) (a b : Bool) (d : Nat) : (Op.equalIn (d + 1) t (.bool a) (.bool b)).run P w = .ok (a == b) w := by
  simp [Op.equalIn, run_underlying ht]
theorem run_bin_eql {t : TypeId} {x y : Value} {b : Bool} (hx : (∃ p, x = .pointer p) ∨ (∃ p, x = .bool p) ∨ (∃ p, x = .agg p)) (hy : (∃ p, y = .pointer p) ∨ (∃ p, y = .bool p) ∨ (∃ p, y = .agg p)) (h : (Op.equalIn (9999 + 1) t x y).run P w = .ok b w) :
    (binOp .eql t x y).run P w = .ok (.bool b) w := by
  have e : binOp .eql t x y = (do pure (.bool (← Op.equal t x y))) := by
    rcases hx with ⟨p, rfl⟩ | ⟨p, rfl⟩ | ⟨p, rfl⟩ <;> rcases hy with ⟨q, rfl⟩ | ⟨q, rfl⟩ | ⟨q, rfl⟩ <;> rfl
  rw [e, equal_eq, Sem.run_bind, h]; rfl
theorem run_bin_neq {t : TypeId} {x y : Value} {b : Bool} (hx : (∃ p, x = .pointer p) ∨ (∃ p, x = .bool p) ∨ (∃ p, x = .agg p)) (hy : (∃ p, y = .pointer p) ∨ (∃ p, y = .bool p) ∨ (∃ p, y = .agg p)) (h : (Op.equalIn (9999 + 1) t x y).run P w = .ok b w) :
    (binOp .neq t x y).run P w = .ok (.bool (!b)) w := by
  have e : binOp .neq t x y = (do pure (.bool (!(← Op.equal t x y)))) := by
    rcases hx with ⟨p, rfl⟩ | ⟨p, rfl⟩ | ⟨p, rfl⟩ <;> rcases hy with ⟨q, rfl⟩ | ⟨q, rfl⟩ | ⟨q, rfl⟩ <;> rfl
  rw [e, equal_eq, Sem.run_bind, h]; rfl

theorem eqNil_ok {x y : C} {vx vy : Value} (hx : Rc w I ρ x vx) (hy : Rc w I ρ y vy) {b : Bool} (h : eqNil x y = some b) {t e : TypeId} (ht : P.underlying t = some (.pointer e)) :
    (Op.equalIn (9999 + 1) t vx vy).run P w = .ok b w ∧ (∃ p, vx = .pointer p) ∧ ∃ p, vy = .pointer p := by
  have two : ∃ p q : Option Addr, vx = .pointer p ∧ vy = .pointer q ∧ ((p = none ∧ b = q.isNone) ∨ (q = none ∧ b = p.isNone)) := by
    unfold eqNil at h
    split at h
    · split at h
      · simp at h; exact ⟨none, none, hx, hy, .inl ⟨rfl, by simp [← h]⟩⟩
      · obtain ⟨q, _, _, rfl⟩ := hy; simp at h; exact ⟨none, _, hx, rfl, .inl ⟨rfl, by simp [← h]⟩⟩
      · obtain ⟨q, _, _, rfl⟩ := hy; simp at h; exact ⟨none, _, hx, rfl, .inl ⟨rfl, by simp [← h]⟩⟩
      · cases h
    · obtain ⟨q, _, _, rfl⟩ := hx; simp at h; exact ⟨_, none, rfl, hy, .inr ⟨rfl, by simp [← h]⟩⟩
    · obtain ⟨q, _, _, rfl⟩ := hx; simp at h; exact ⟨_, none, rfl, hy, .inr ⟨rfl, by simp [← h]⟩⟩
    · cases h
  obtain ⟨p, q, rfl, rfl, h⟩ := two
  exact ⟨run_equal_ptr ht p q 9999 h, ⟨p, rfl⟩, q, rfl⟩

theorem agg_ok {t : TypeId} {ks : List EK} {xs ys : List C} {vx vy : Array Value} (hx : Rcs w I ρ xs vx.toList) (hy : Rcs w I ρ ys vy.toList) (hk : flatK P 8 t = some ks) (ha : aggT P t = true ∧ ks.length = tsz P t) {b : Bool} (h : eqCells ks xs ys = some b) :
    (Op.equalIn (9999 + 1) t (.agg vx) (.agg vy)).run P w = .ok b w ∧ P.eqGuardType P.depth t = false := by
  have hl := eqCells_length h
  obtain ⟨a, b', p1, p2, p3⟩ := flat_ok (P := P) (w := w) (I := I) (ρ := ρ) 8 t ks hk ha.2 (9999 + 1) (by omega) vx vy 0 xs ys hx hy b (by rw [List.drop_zero, List.drop_zero, ← ha.2, List.take_of_length_le (by omega), List.take_of_length_le (by omega)]; exact h)
  have hst : ∃ fs, P.underlying t = some (.struct fs) ∧ P.eqGuardType P.depth t = false := by
    simp only [flatK] at hk
    split at hk
    · rename_i hd; simp [aggT, hd] at ha
    · rename_i hd; simp [aggT, hd] at ha
    · rename_i hd; simp [aggT, hd] at ha
    · rename_i fs hd
      split at hk
      · rename_i hs; exact ⟨fs, hd, hs.2⟩
      · cases hk
    · cases hk
  obtain ⟨fs, hd, hg⟩ := hst
  obtain ⟨i, hi⟩ := info_of_underlying hd
  have e1 : a = .agg vx := by
    simp only [part, Sem.run_bind, run_isAgg' hd, Result.andThen_ok, ha.1, if_true, run_sizeOf' hi, Sem.run_pure] at p1
    injection p1 with p1 _; rw [← p1, Nat.zero_add, ← ha.2, ← hl.1, Rcs_length hx]; simp
  have e2 : b' = .agg vy := by
    simp only [part, Sem.run_bind, run_isAgg' hd, Result.andThen_ok, ha.1, if_true, run_sizeOf' hi, Sem.run_pure] at p2
    injection p2 with p2 _; rw [← p2, Nat.zero_add, ← ha.2, ← hl.2, Rcs_length hy]; simp
  subst e1 e2
  exact ⟨p3, hg⟩

theorem run_bin_nilsl {t e : TypeId} (ht : P.underlying t = some (.slice e)) (a : Option Addr) (n cap : Nat) : (binOp .eql t (.slice a n cap) (.slice none 0 0)).run P w = .ok (.bool a.isNone) w := by
  have h : ∀ d, (Op.equalIn (d + 1) t (.slice a n cap) (.slice none 0 0)).run P w = .ok a.isNone w := fun d => by
    cases a <;> simp [Op.equalIn, run_underlying ht]
  have e : binOp .eql t (.slice a n cap) (.slice none 0 0) = (do pure (.bool (← Op.equal t (.slice a n cap) (.slice none 0 0)))) := rfl
  rw [e, equal_eq, Sem.run_bind, h]; rfl
theorem binO_ok {op : BinOp} {t : TypeId} {x y : V} {vx vy : Value} (hx : Rv w I ρ x vx) (hy : Rv w I ρ y vy) {out : Out} (h : (binO P op t x y).run = some out) (ox oy : Operand) :
    Gives P w I ρ (do eqGuard op t ox oy vx vy; binOp op t vx vy) out := by
  unfold binO at h
  split at h
  · rename_i x y
    split at h
    · rename_i k a ka k' b kb ha hb
      have e1 := asI_ok hx ha
      have e2 := asI_ok hy hb
      subst e1 e2
      have hg : ∀ op, (eqGuard op t ox oy (.int k a) (.int k' b)).run P w = .ok () w := fun op => run_eqGuard_plain (by simp) (by simp)
      split at h
      · obtain ⟨c, h1, h2⟩ := bind_run h
        obtain ⟨v, hv, hc⟩ := shift_ok (P := P) (w := w) (yk := k') h1 (I := I) (ρ := ρ)
        cases pureO_run h2
        exact Gives.c (by simpa [hg, binOp] using hv) hc
      · obtain ⟨c, h1, h2⟩ := bind_run h
        obtain ⟨v, hv, hc⟩ := shift_ok (P := P) (w := w) (yk := k') h1 (I := I) (ρ := ρ)
        cases pureO_run h2
        exact Gives.c (by simpa [hg, binOp] using hv) hc
      · rename_i ns nr
        split at h
        · rename_i e; subst e
          obtain ⟨c, h1, h2⟩ := bind_run h
          obtain ⟨v, hv, hc⟩ := arith_ok (P := P) (w := w) h1 (I := I) (ρ := ρ)
          cases pureO_run h2
          refine Gives.c (v := v) ?_ hc
          simp only [Sem.run_bind, hg, Result.andThen_ok]
          rw [← hv]
          cases op <;> first | exact absurd rfl ns | exact absurd rfl nr | simp [binOp]
        · exact (fail_run h).elim
    · split at h
      · rename_i a b _
        obtain ⟨c, h1, h2⟩ := bind_run h
        obtain ⟨v, hv, hc⟩ := str_ok (P := P) (w := w) h1 (I := I) (ρ := ρ)
        cases pureO_run h2
        have e1 : vx = .string a := hx
        have e2 : vy = .string b := hy
        subst e1 e2
        refine Gives.c (v := v) ?_ hc
        simp only [Sem.run_bind, run_eqGuard_plain (a := .string a) (by simp) (by simp), Result.andThen_ok]
        rw [← hv]
        cases op <;> simp [binOp]
      · split at h
        · split at h
          · rename_i a ka b kb ha hb hu
            cases pureO_run h
            have e1 := asB_ok hx ha
            have e2 := asB_ok hy hb
            subst e1 e2
            refine Gives.c (v := .bool (a == b)) ?_ mkB_ok
            simp only [Sem.run_bind, run_eqGuard_plain (a := .bool a) (by simp) (by simp), Result.andThen_ok]
            exact run_bin_eql (.inr (.inl ⟨a, rfl⟩)) (.inr (.inl ⟨b, rfl⟩)) (run_equal_bool hu a b 9999)
          · split at h
            · rename_i b hb
              cases pureO_run h
              obtain ⟨h1, ⟨p, rfl⟩, q, rfl⟩ := eqNil_ok hx hy hb (by assumption)
              refine Gives.c (v := .bool b) ?_ mkB_ok
              simp only [Sem.run_bind, run_eqGuard_plain (a := .pointer p) (by simp) (by simp), Result.andThen_ok]
              exact run_bin_eql (.inl ⟨p, rfl⟩) (.inl ⟨q, rfl⟩) h1
            · exact (fail_run h).elim
          · split at h
            · cases pureO_run h
              obtain ⟨_, a, n, cap, rfl, rfl⟩ := hx
              have e2 : vy = .slice none 0 0 := hy
              subst e2
              refine Gives.c (v := .bool a.isNone) ?_ mkB_ok
              simp only [Sem.run_bind, run_eqGuard_plain (a := .slice a n cap) (by simp) (by simp), Result.andThen_ok]
              exact run_bin_nilsl (by assumption) a n cap
            · exact (fail_run h).elim
          · exact (fail_run h).elim
        · split at h
          · rename_i a ka b kb ha hb hu
            cases pureO_run h
            have e1 := asB_ok hx ha
            have e2 := asB_ok hy hb
            subst e1 e2
            refine Gives.c (v := .bool (!(a == b))) ?_ mkB_ok
            simp only [Sem.run_bind, run_eqGuard_plain (a := .bool a) (by simp) (by simp), Result.andThen_ok]
            exact run_bin_neq (.inr (.inl ⟨a, rfl⟩)) (.inr (.inl ⟨b, rfl⟩)) (run_equal_bool hu a b 9999)
          · split at h
            · rename_i b hb
              cases pureO_run h
              obtain ⟨h1, ⟨p, rfl⟩, q, rfl⟩ := eqNil_ok hx hy hb (by assumption)
              refine Gives.c (v := .bool (!b)) ?_ mkB_ok
              simp only [Sem.run_bind, run_eqGuard_plain (a := .pointer p) (by simp) (by simp), Result.andThen_ok]
              exact run_bin_neq (.inl ⟨p, rfl⟩) (.inl ⟨q, rfl⟩) h1
            · exact (fail_run h).elim
          · exact (fail_run h).elim
        · exact (fail_run h).elim
  · rename_i xs ys
    obtain ⟨vx, rfl, hx⟩ := hx
    obtain ⟨vy, rfl, hy⟩ := hy
    split at h
    · rename_i ks hk
      split at h
      · rename_i ha
        split at h
        · rename_i b hb
          obtain ⟨h1, h2⟩ := agg_ok hx hy hk ha hb
          have hg : ∀ op, (eqGuard op t ox oy (.agg vx) (.agg vy)).run P w = .ok () w := fun op => run_eqGuard_agg w op t ox oy vx vy h2
          split at h
          · cases pureO_run h
            refine Gives.c (v := .bool b) ?_ rfl
            simp only [Sem.run_bind, hg, Result.andThen_ok]
            exact run_bin_eql (.inr (.inr ⟨vx, rfl⟩)) (.inr (.inr ⟨vy, rfl⟩)) h1
          · cases pureO_run h
            refine Gives.c (v := .bool (!b)) ?_ rfl
            simp only [Sem.run_bind, hg, Result.andThen_ok]
            exact run_bin_neq (.inr (.inr ⟨vx, rfl⟩)) (.inr (.inr ⟨vy, rfl⟩)) h1
          · exact (fail_run h).elim
        · exact (fail_run h).elim
      · exact (fail_run h).elim
    · exact (fail_run h).elim
  · exact (fail_run h).elim

theorem unO_ok {op : UnOp} {x : V} {vx : Value} (hx : Rv w I ρ x vx) {out : Out} (h : (unO op x).run = some out) : Gives P w I ρ (Op.unary op vx) out := by
  unfold unO at h
  split at h
  · rename_i x
    split at h
    · rename_i b k hb
      cases pureO_run h
      have e := asB_ok hx hb
      subst e
      exact Gives.c (v := .bool !b) (by simp [Op.unary]) mkB_ok
    · rename_i k n kn hn
      cases pureO_run h
      have e := asI_ok hx hn
      subst e
      exact Gives.c (v := .int k (k.wrap (0 - n))) (by simp [Op.unary, Op.intArith]) mkI_ok
    · exact (fail_run h).elim
  · exact (fail_run h).elim
end
end Go.Eng
