/- slices.IndexFunc over the protocols that are asked. -/
import Derived.Test.YtnngcneobkfijaaF2
import Derived.Test.YtnngcneobkfijaaE30
set_option maxRecDepth 100000
namespace Go.Proofs.Ytnngcneobkfijaa
open Go.Eng
abbrev intS : Shs := .cons (.int .i64) .nil
abbrev ruleS : Shs := .cons (.lst (.cons .str .nil)) (.cons (.lst (.cons .str .nil)) (.cons (.lst (.cons .str (.cons .str .nil))) .nil))
abbrev cfgP : List CP := [.int .i64, .int .i64, .int .i64, .int .i64, .int .i64, .int .i64, .lst ruleS]
/-- may this protocol not be used? -/
def deny (c0 p : Int) : Bool := !(decide (p ≥ 1) && decide (p ≤ 4) && (IntKind.i64.wrap ((BitVec.ofInt 64 (c0.fdiv (2 ^ min p.toNat 64)) &&& BitVec.ofInt 64 1).toNat : Nat) == 1))
def denySpec : Eng.Spec := patSpec [.c (.int .i64), .c (.ref 0 0)] [.box cfgP] fun x d => .leaf (.full (.c (.sb (deny d.1.1 x.1))) (OPs.mk [.box cfgP] d))
theorem sp17_is (p c0 a1 a2 a3 a4 a5 : Int) (rs : List (Tup ruleS)) : evFn X17 Try.f17 (bodyOf Try.f17) [.c (.int .i64 p), .c (.ref 0 0)] [some (.box [.int .i64 c0, .int .i64 a1, .int .i64 a2, .int .i64 a3, .int .i64 a4, .int .i64 a5, .lst ruleS rs])] =
    .node (decide (p ≥ 1)) (.node (decide (p ≤ 4)) (.node (decide (p < 0)) .fail (.leaf (.c (.sb (!(IntKind.i64.wrap ((BitVec.ofInt 64 (c0.fdiv (2 ^ min p.toNat 64)) &&& BitVec.ofInt 64 1).toNat : Nat) == 1))), [some (.box [.int .i64 c0, .int .i64 a1, .int .i64 a2, .int .i64 a3, .int .i64 a4, .int .i64 a5, .lst ruleS rs])])))
      (.leaf (.c .tt, [some (.box [.int .i64 c0, .int .i64 a1, .int .i64 a2, .int .i64 a3, .int .i64 a4, .int .i64 a5, .lst ruleS rs])]))) (.leaf (.c .tt, [some (.box [.int .i64 c0, .int .i64 a1, .int .i64 a2, .int .i64 a3, .int .i64 a4, .int .i64 a5, .lst ruleS rs])])) := by kernel_rfl
theorem Wk.tt {b : Bool} (h : b = true) : Wk (.c .tt) (.c (.sb b)) := fun _ _ _ _ hv => h ▸ hv
theorem Wk.sb {b b' : Bool} (h : b = b') : Wk (.c (.sb b)) (.c (.sb b')) := fun _ _ _ _ hv => h ▸ hv
theorem deny_ends (p c0 a1 a2 a3 a4 a5 : Int) (rs : List (Tup ruleS)) : TEnds (fun y => ResOk [.box [.int .i64 c0, .int .i64 a1, .int .i64 a2, .int .i64 a3, .int .i64 a4, .int .i64 a5, .lst ruleS rs]] y.1 y.2 (.full (.c (.sb (deny c0 p))) [some (.box [.int .i64 c0, .int .i64 a1, .int .i64 a2, .int .i64 a3, .int .i64 a4, .int .i64 a5, .lst ruleS rs])]))
    (evFn X17 Try.f17 (bodyOf Try.f17) [.c (.int .i64 p), .c (.ref 0 0)] [some (.box [.int .i64 c0, .int .i64 a1, .int .i64 a2, .int .i64 a3, .int .i64 a4, .int .i64 a5, .lst ruleS rs])]) := by
  refine .eq (sp17_is p c0 a1 a2 a3 a4 a5 rs) (.node (fun h1 => .node (fun h2 => .no ?_ fun h3 => .leaf ?_) fun h2 => .leaf ?_) fun h1 => .leaf ?_)
  · simp at h1 ⊢; omega
  · exact ⟨Wk.sb (by simp only [deny, h1, h2]; rfl), WkH.refl _⟩
  · exact ⟨Wk.tt (by simp only [deny, h1, h2]; rfl), WkH.refl _⟩
  · exact ⟨Wk.tt (by simp only [deny, h1]; rfl), WkH.refl _⟩
theorem denyOk : SpecOk Try.prog 17 denySpec := by
  refine fn_pat mixed Try.func17 (body := bodyOf Try.f17) (by kernel_rfl) (by kernel_rfl) (by kernel_rfl) (by kernel_rfl) rfl fun x d r hr => ?_
  cases leaf_run hr
  exact ⟨X17, rfl, envOkF1_22, LpOk.none, deny_ends _ _ _ _ _ _ _ _⟩
end Go.Proofs.Ytnngcneobkfijaa
