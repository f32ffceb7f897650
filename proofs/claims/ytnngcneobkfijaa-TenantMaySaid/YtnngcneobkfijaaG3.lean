/- slices.IndexFunc over the protocols that are asked: its contract. -/
import Derived.Test.YtnngcneobkfijaaG2
set_option maxRecDepth 100000
namespace Go.Proofs.Ytnngcneobkfijaa
open Go.Eng
def ans26 (l : List (Tup intS)) (n i c0 : Int) (o : Option Eng.Obj) : Tree (Ex × St) :=
  .node (decide (n = (l.length : Nat)) && decide (i = 0) && decide (l.length < 4611686018427387904))
    (.node (l.any (F26 c0)) (.leaf (.ret, { tm := [(4, .c (.int .i64 (fidx (F26 c0) l 0)))], hp := [o] })) (.leaf (.norm, { tm := [], hp := [o] }))) .fail
noncomputable def XF26 : Ctx := ⟨Try.prog, envOf envD, 2^0+2^1+2^4+2^5+2^7+2^8+2^9+2^16, lpPat 0 P26 (fun d => ans26 d.1.1 d.1.2.2.1 d.1.2.2.2.1 d.2.1.1 (OP.mk (.box cfgP) d.2.1)), 1, [], 1, 0⟩
theorem lp26_core (l : List (Tup intS)) (n i c0 a1 a2 a3 a4 a5 : Int) (rs : List (Tup ruleS)) (e : Ex) (s : St) (hr : (ans26 l n i c0 (cfgC c0 a1 a2 a3 a4 a5 rs)).run = some (e, s)) :
    ∃ fuel, TEnds (fun y => outOf 0 y.1 = e ∧ ∃ q d', s = SP.mk' q d' ∧ q.get y.2 = some d') (iter (evCode XL26 (loopOf 0 (bodyOf Try.f26))) fuel (S26 l n i (cfgC c0 a1 a2 a3 a4 a5 rs))) := by
  obtain ⟨hg, hr2⟩ := node_fail hr
  clear hr
  simp only [Bool.and_eq_true, decide_eq_true_eq] at hg
  obtain ⟨⟨hn, hi⟩, hl⟩ := hg
  subst hn hi
  refine ⟨l.length + 1, TEnds.mono (it26 c0 a1 a2 a3 a4 a5 rs l [] hl) fun y hy => ?_⟩
  rcases hy with ⟨h1, rfl⟩ | ⟨h1, tm, rfl⟩
  · rw [h1] at hr2
    cases hr2
    exact ⟨rfl, ⟨[(4, .c (.int .i64))], [.box cfgP]⟩, ((fidx (F26 c0) l 0, ()), ((c0, a1, a2, a3, a4, a5, rs, ()), ())), rfl, rfl⟩
  · rw [h1] at hr2
    cases hr2
    exact ⟨rfl, ⟨[], [.box cfgP]⟩, ((), ((c0, a1, a2, a3, a4, a5, rs, ()), ())), rfl, rfl⟩
theorem lp26 : LpOk Try.prog Try.f26.ntmps 1 (bodyOf Try.f26) XF26.lp :=
  loop_pat (X := XL26) mixed envDOk (by kernel_rfl) (by kernel_rfl) (by kernel_rfl) LpOk.none fun _ _ _ hr => lp26_core _ _ _ _ _ _ _ _ _ _ _ _ hr
theorem fn26_is (l : List (Tup intS)) (c0 a1 a2 a3 a4 a5 : Int) (rs : List (Tup ruleS)) : evFn XF26 Try.f26 (bodyOf Try.f26) [.c (.lst intS l), .c (.fn 17 [(0, 0)])] [cfgC c0 a1 a2 a3 a4 a5 rs] =
    .node (decide (((l.length : Nat) : Int) = (l.length : Nat)) && decide ((0 : Int) = 0) && decide (l.length < 4611686018427387904))
      (.node (l.any (F26 c0)) (.leaf (.c (.int .i64 (fidx (F26 c0) l 0)), [cfgC c0 a1 a2 a3 a4 a5 rs])) (.leaf (.c (.lit .i64 (-1)), [cfgC c0 a1 a2 a3 a4 a5 rs]))) .fail := by kernel_rfl
def spec26 : Eng.Spec := patSpec [.c (.lst intS), .c (.fn 17 [(0, 0)])] [.box cfgP] fun x d =>
  .node (decide (List.length (α := Tup intS) x.1 < 4611686018427387904)) (.leaf (.full (.c (.int .i64 (fidx (F26 d.1.1) x.1 0))) (OPs.mk [.box cfgP] d))) .fail
theorem fidx_none {α : Type} {f : α → Bool} : {l : List α} → {i : Int} → l.any f = false → fidx f l i = -1
  | [], _, _ => rfl
  | x :: r, i, h => by
    simp only [List.any_cons, Bool.or_eq_false_iff] at h
    simp only [fidx, h.1, cond_false]
    exact fidx_none h.2
theorem fidx_some {α : Type} {f : α → Bool} : {l : List α} → {i : Int} → 0 ≤ i → l.any f = true → 0 ≤ fidx f l i
  | [], _, _, h => by cases h
  | x :: r, i, hi, h => by
    simp only [fidx]
    cases hx : f x with
    | true => exact hi
    | false => exact fidx_some (by omega) (by simpa [hx] using h)
theorem fn26_core (l : List (Tup intS)) (c0 a1 a2 a3 a4 a5 : Int) (rs : List (Tup ruleS)) (r : Res) (hr : (Tree.node (decide (l.length < 4611686018427387904)) (.leaf (Res.full (.c (.int .i64 (fidx (F26 c0) l 0))) [cfgC c0 a1 a2 a3 a4 a5 rs])) .fail).run = some r) :
    TEnds (fun y => ResOk [.box [.int .i64 c0, .int .i64 a1, .int .i64 a2, .int .i64 a3, .int .i64 a4, .int .i64 a5, .lst ruleS rs]] y.1 y.2 r) (evFn XF26 Try.f26 (bodyOf Try.f26) [.c (.lst intS l), .c (.fn 17 [(0, 0)])] [cfgC c0 a1 a2 a3 a4 a5 rs]) := by
  obtain ⟨hl, hr⟩ := node_fail hr
  cases leaf_run hr
  refine .eq (fn26_is l c0 a1 a2 a3 a4 a5 rs) (.ok (by simpa using hl) fun _ => .node (fun _ => .leaf ⟨Wk.refl _, WkH.refl _⟩) fun h => .leaf ⟨?_, WkH.refl _⟩)
  rw [fidx_none h]
  exact fun _ _ _ _ h => h
theorem ok26' : SpecOk Try.prog 26 spec26 :=
  fn_pat mixed Try.func26 (body := bodyOf Try.f26) (by kernel_rfl) (by kernel_rfl) (by kernel_rfl) (by kernel_rfl) rfl fun _ _ _ hr => ⟨XF26, rfl, envDOk, lp26, fn26_core _ _ _ _ _ _ _ _ _ hr⟩
/- slices.ContainsFunc -/
noncomputable def envD1 : List (Nat × Bool × Eng.Spec) := (26, false, spec26) :: envD
theorem envD1Ok : EnvOk Try.prog (envOf envD1) := envOf_cons ok26' envDOk
noncomputable def XF16 : Ctx := ⟨Try.prog, envOf envD1, 2^0+2^1+2^4, fun _ _ => none, 1, [], 1, 0⟩
theorem fn16_is (l : List (Tup intS)) (c0 a1 a2 a3 a4 a5 : Int) (rs : List (Tup ruleS)) : evFn XF16 Try.f16 (bodyOf Try.f16) [.c (.lst intS l), .c (.fn 17 [(0, 0)])] [cfgC c0 a1 a2 a3 a4 a5 rs] =
    .node (decide (l.length < 4611686018427387904)) (.leaf (.c (.sb (decide (fidx (F26 c0) l 0 ≥ 0))), [cfgC c0 a1 a2 a3 a4 a5 rs])) .fail := by kernel_rfl
def spec16 : Eng.Spec := patSpec [.c (.lst intS), .c (.fn 17 [(0, 0)])] [.box cfgP] fun x d =>
  .node (decide (List.length (α := Tup intS) x.1 < 4611686018427387904)) (.leaf (.full (.c (.sb (List.any (α := Tup intS) x.1 (F26 d.1.1)))) (OPs.mk [.box cfgP] d))) .fail
theorem fn16_core (l : List (Tup intS)) (c0 a1 a2 a3 a4 a5 : Int) (rs : List (Tup ruleS)) (r : Res) (hr : (Tree.node (decide (l.length < 4611686018427387904)) (.leaf (Res.full (.c (.sb (l.any (F26 c0)))) [cfgC c0 a1 a2 a3 a4 a5 rs])) .fail).run = some r) :
    TEnds (fun y => ResOk [.box [.int .i64 c0, .int .i64 a1, .int .i64 a2, .int .i64 a3, .int .i64 a4, .int .i64 a5, .lst ruleS rs]] y.1 y.2 r) (evFn XF16 Try.f16 (bodyOf Try.f16) [.c (.lst intS l), .c (.fn 17 [(0, 0)])] [cfgC c0 a1 a2 a3 a4 a5 rs]) := by
  obtain ⟨hl, hr⟩ := node_fail hr
  cases leaf_run hr
  refine .eq (fn16_is l c0 a1 a2 a3 a4 a5 rs) (.ok hl fun _ => .leaf ⟨Wk.sb ?_, WkH.refl _⟩)
  cases h : l.any (F26 c0) with
  | false => rw [fidx_none h]; rfl
  | true => simpa using fidx_some (Int.le_refl 0) h
theorem ok16' : SpecOk Try.prog 16 spec16 :=
  fn_pat mixed Try.func16 (body := bodyOf Try.f16) (by kernel_rfl) (by kernel_rfl) (by kernel_rfl) (by kernel_rfl) rfl fun _ _ _ hr => ⟨XF16, rfl, envD1Ok, LpOk.none, fn16_core _ _ _ _ _ _ _ _ _ hr⟩
end Go.Proofs.Ytnngcneobkfijaa
