/- known() says true; the law's calls, with a number supposed. -/
import Derived.Test.YtnngcneobkfijaaF1
import Derived.Test.YtnngcneobkfijaaE28
set_option maxRecDepth 100000
namespace Go.Proofs.Ytnngcneobkfijaa
open Go.Eng
def knownSpec : Eng.Spec := fun args m => match args, m with
  | [], [] => .leaf (.pure (.c .tt))
  | _, _ => .fail
theorem known6 : (sp6 [] []).run = some (.pure (.c .tt)) := by kernel_rfl
theorem knownOk : SpecOk Try.prog 6 knownSpec := by
  intro args m r he
  unfold knownSpec at he
  split at he
  · cases leaf_run he
    exact ok6 [] [] _ known6
  · exact (fail_run he).elim
noncomputable def envK : List (Nat × Bool × Eng.Spec) := (6, false, knownSpec) :: envF1_36
theorem envKOk : EnvOk Try.prog (envOf envK) := envOf_cons knownOk envOkF1_36
def keep4 : Nat := [0, 2, 3, 4, 5, 6, 8, 15, 18, 30, 33, 36, 39, 42, 48, 51, 57, 60, 66, 69, 72, 75].foldl (fun a x => a + 2 ^ x) 0
def keep5 : Nat := [0, 2, 3, 4, 5, 6, 7, 8, 10, 13, 16, 32, 55, 59, 71].foldl (fun a x => a + 2 ^ x) 0
noncomputable def X4 (r : Int) : Ctx := ⟨Try.prog, envOf envK, keep4, fun _ _ => none, 64, [(5, .fix 15 fun _ => r)], 0, 0⟩
noncomputable def sp4 (r : Int) : Eng.Spec := evSpec (X4 r) Try.f4 (bodyOf Try.f4)
theorem ok4 (r : Int) : SpecOk Try.prog 4 (sp4 r) := evSpec_ok (X := X4 r) mixed envKOk Try.func4 (by kernel_rfl) (by kernel_rfl) (by kernel_rfl) (fun _ => lpOk_none (fun _ _ => rfl) _)
/-- the value of a temporary that is known -/
noncomputable def litAt (s : St) (t : Nat) : Int := match tget s.tm t with
  | .c (.lit _ n) => n
  | _ => 0
noncomputable def X5 (r : Int) : Ctx := ⟨Try.prog, envOf envK, keep5, fun _ _ => none, 64, [(10, .fix 6 fun s => (litAt s 5 + r).tmod 5)], 0, 0⟩
noncomputable def sp5 (r : Int) : Eng.Spec := evSpec (X5 r) Try.f5 (bodyOf Try.f5)
theorem ok5 (r : Int) : SpecOk Try.prog 5 (sp5 r) := evSpec_ok (X := X5 r) mixed envKOk Try.func5 (by kernel_rfl) (by kernel_rfl) (by kernel_rfl) (fun _ => lpOk_none (fun _ _ => rfl) _)
end Go.Proofs.Ytnngcneobkfijaa
