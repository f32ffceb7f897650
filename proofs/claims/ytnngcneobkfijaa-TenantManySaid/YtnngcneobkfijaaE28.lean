/- The engine, part 28: a reckoning under suppositions. -/
import Derived.Test.YtnngcneobkfijaaE27
set_option linter.unusedVariables false
namespace Go.Eng
namespace Tree
def runS {α : Type} : Tree α → List Bool → Option (List Bool × α)
  | .leaf a, acc => some (acc, a)
  | .node b t f, acc => bif b then t.runS acc else f.runS acc
  | .fail, _ => none
  | .hyp b t, acc => t.runS (b :: acc)
theorem runS_ok {α : Type} {a : α} {bs : List Bool} (t : Tree α) : ∀ acc, t.runS acc = some (bs, a) → (∀ b ∈ bs, b = true) → t.run = some a ∧ ∀ b ∈ acc, b = true := by
  induction t with
  | leaf x =>
    intro acc h hb
    simp only [runS, Option.some.injEq, Prod.mk.injEq] at h
    obtain ⟨rfl, rfl⟩ := h
    exact ⟨rfl, hb⟩
  | node b t f iht ihf =>
    intro acc h hb
    cases b with
    | true => exact iht acc h hb
    | false => exact ihf acc h hb
  | fail => intro acc h; cases h
  | hyp b t ih =>
    intro acc h hb
    obtain ⟨h1, h2⟩ := ih (b :: acc) h hb
    have hbt : b = true := h2 b (List.mem_cons_self ..)
    subst hbt
    exact ⟨h1, fun c hc => h2 c (List.mem_cons_of_mem _ hc)⟩
end Tree
end Go.Eng
