/- The engine, part 28: a reckoning under suppositions. -/
import Derived.Test.YtnngcneobkfijaaE27
set_option linter.unusedVariables false
namespace Go.Eng
namespace Tree
def runS {α : Type} : Tree α → List Bool → Option (List Bool × α)
  | .leaf a, acc => some (acc, a)
  | .node b t f, acc => bif b then t.runS acc else f.runS acc
  | .fail, _ => none
  | .hyp b t, acc => t.runS (b :: acc)
theorem runS_ok {α : Type} {a : α} {bs : List Bool} (t : Tree α) : ∀ acc, t.runS acc = some (bs, a) → (∀ b ∈ bs, b = true) → t.run = some a ∧ ∀ b ∈ acc, b = true := by
  induction t with
  | leaf x =>
    intro acc h hb
    simp only [runS, Option.some.injEq, Prod.mk.injEq] at h
    obtain ⟨rfl, rfl⟩ := h
    exact ⟨rfl, hb⟩
  | node b t f iht ihf =>
    intro acc h hb
    cases b with
    | true => exact iht acc h hb
    | false => exact ihf acc h hb
  | fail => intro acc h; cases h
  | hyp b t ih =>
    intro acc h hb
    obtain ⟨h1, h2⟩ := ih (b :: acc) h hb
    have hbt : b = true := h2 b (List.mem_cons_self ..)
    subst hbt
    exact ⟨h1, fun c hc => h2 c (List.mem_cons_of_mem _ hc)⟩
/-- along a path: so many truths reckoned, then one supposed -/
def runP {α : Type} : Tree α → List (Nat × Bool) → List (Bool × Bool) → Option (List (Bool × Bool) × α)
  | .leaf a, _, acc => some (acc, a)
  | .fail, _, _ => none
  | .hyp b t, p, acc => t.runP p ((b, true) :: acc)
  | .node b t f, p, acc => match p with
    | [] => bif b then t.runP [] acc else f.runP [] acc
    | (0, c) :: p => bif c then t.runP p ((b, c) :: acc) else f.runP p ((b, c) :: acc)
    | (n + 1, c) :: p => bif b then t.runP ((n, c) :: p) acc else f.runP ((n, c) :: p) acc
theorem runP_ok {α : Type} {a : α} {bs : List (Bool × Bool)} (t : Tree α) : ∀ p acc, t.runP p acc = some (bs, a) → (∀ x ∈ bs, x.1 = x.2) → t.run = some a ∧ ∀ x ∈ acc, x.1 = x.2 := by
  induction t with
  | leaf x =>
    intro p acc h hb
    simp only [runP, Option.some.injEq, Prod.mk.injEq] at h
    obtain ⟨rfl, rfl⟩ := h
    exact ⟨rfl, hb⟩
  | fail => intro p acc h; cases h
  | hyp b t ih =>
    intro p acc h hb
    obtain ⟨h1, h2⟩ := ih p _ h hb
    have hbt : b = true := h2 _ (List.mem_cons_self ..)
    subst hbt
    exact ⟨h1, fun c hc => h2 c (List.mem_cons_of_mem _ hc)⟩
  | node b t f iht ihf =>
    intro p acc h hb
    unfold runP at h
    split at h
    · cases b with
      | true => exact iht _ acc h hb
      | false => exact ihf _ acc h hb
    · rename_i c p
      cases c with
      | true =>
        obtain ⟨h1, h2⟩ := iht p _ h hb
        have hbt : b = true := h2 _ (List.mem_cons_self ..)
        subst hbt
        exact ⟨h1, fun c hc => h2 c (List.mem_cons_of_mem _ hc)⟩
      | false =>
        obtain ⟨h1, h2⟩ := ihf p _ h hb
        have hbt : b = false := h2 _ (List.mem_cons_self ..)
        subst hbt
        exact ⟨h1, fun c hc => h2 c (List.mem_cons_of_mem _ hc)⟩
    · cases b with
      | true => exact iht _ acc h hb
      | false => exact ihf _ acc h hb
end Tree
end Go.Eng
