/- The contracts of slices.Clone. -/
import Derived.Test.YtnngcneobkfijaaF0
import Derived.Test.YtnngcneobkfijaaE27
set_option maxRecDepth 100000
namespace Go.Proofs.Ytnngcneobkfijaa
open Go.Eng
noncomputable def X24 : Ctx := ⟨Try.prog, envOf [], 2^0+2^2+2^4, fun _ _ => none, 4, [], 0, 0⟩
noncomputable def sp24 : Eng.Spec := evSpec X24 Try.f24 (bodyOf Try.f24)
theorem ok24 : SpecOk Try.prog 24 sp24 := evSpec_ok (X := X24) mixed envOf_nil Try.func24 (by kernel_rfl) (by kernel_rfl) (by kernel_rfl) (fun _ => lpOk_none (fun _ _ => rfl) _)
def cloneSpec24 : Eng.Spec := cloneSpec (.cons .str .nil) 16
theorem cloneOk24 : SpecOk Try.prog 24 cloneSpec24 := by
  refine clone_ok ok24 (fun l => by kernel_rfl) (fun l hl => ?_)
  have h : sp24 [.c (.dl (.cons .str .nil) l false)] [] = .node (decide ((0 + l.length) * 16 ≤ 140737488355328)) (.leaf (.full (.c (.rw 1 1 false)) [none, some (.row (.cons .str .nil) l .own)])) .fail := by kernel_rfl
  rw [h]
  simp only [Tree.run, Nat.zero_add, hl, decide_true, cond_true]
  exact ⟨_, _, _, _, _, rfl, rfl⟩
noncomputable def X25 : Ctx := ⟨Try.prog, envOf [], 2^0+2^2+2^4, fun _ _ => none, 4, [], 0, 0⟩
noncomputable def sp25 : Eng.Spec := evSpec X25 Try.f25 (bodyOf Try.f25)
theorem ok25 : SpecOk Try.prog 25 sp25 := evSpec_ok (X := X25) mixed envOf_nil Try.func25 (by kernel_rfl) (by kernel_rfl) (by kernel_rfl) (fun _ => lpOk_none (fun _ _ => rfl) _)
def cloneSpec25 : Eng.Spec := cloneSpec (.cons .str (.cons .str .nil)) 32
theorem cloneOk25 : SpecOk Try.prog 25 cloneSpec25 := by
  refine clone_ok ok25 (fun l => by kernel_rfl) (fun l hl => ?_)
  have h : sp25 [.c (.dl (.cons .str (.cons .str .nil)) l false)] [] = .node (decide ((0 + l.length) * 32 ≤ 140737488355328)) (.leaf (.full (.c (.rw 1 2 false)) [none, some (.row (.cons .str (.cons .str .nil)) l .own)])) .fail := by kernel_rfl
  rw [h]
  simp only [Tree.run, Nat.zero_add, hl, decide_true, cond_true]
  exact ⟨_, _, _, _, _, rfl, rfl⟩
end Go.Proofs.Ytnngcneobkfijaa
