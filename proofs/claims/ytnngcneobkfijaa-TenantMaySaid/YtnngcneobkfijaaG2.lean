/- slices.IndexFunc over the protocols that are asked: its loop. -/
import Derived.Test.YtnngcneobkfijaaG1
set_option maxRecDepth 100000
namespace Go.Proofs.Ytnngcneobkfijaa
open Go.Eng
noncomputable def envD : List (Nat × Bool × Eng.Spec) := [(17, false, denySpec)]
theorem envDOk : EnvOk Try.prog (envOf envD) := envOf_cons denyOk envOf_nil
/-- the context of a round -/
noncomputable def XL26 : Ctx := ⟨Try.prog, envOf envD, 2^0+2^1+2^4+2^5+2^7+2^8+2^9+2^16, fun _ _ => none, 1, [(1, .loose), (5, .keep (2^4)), (6, .loose), (6, .keep (2^0+2^1+2^7+2^8))], 1, 0⟩
def P26 : SP := ⟨[(0, .c (.lst intS)), (1, .c (.fn 17 [(0, 0)])), (7, .c (.int .i64)), (8, .c (.int .i64))], [.box cfgP]⟩
def cfgC (c0 a1 a2 a3 a4 a5 : Int) (rs : List (Tup ruleS)) : Option Eng.Obj := some (.box [.int .i64 c0, .int .i64 a1, .int .i64 a2, .int .i64 a3, .int .i64 a4, .int .i64 a5, .lst ruleS rs])
def S26 (l : List (Tup intS)) (n i : Int) (o : Option Eng.Obj) : St := { tm := [(0, .c (.lst intS l)), (1, .c (.fn 17 [(0, 0)])), (7, .c (.int .i64 n)), (8, .c (.int .i64 i))], hp := [o] }
theorem body26 (l : List (Tup intS)) (n i c0 a1 a2 a3 a4 a5 : Int) (rs : List (Tup ruleS)) : evCode XL26 (loopOf 0 (bodyOf Try.f26)) (S26 l n i (cfgC c0 a1 a2 a3 a4 a5 rs)) =
    .node (decide (i < n)) (.node (inB i l.length) (.node (decide (i.toNat < l.length)) (.node (deny c0 (l.getD i.toNat (dTup intS)).1)
      (.leaf (.ret, { tm := [(4, .c (.int .i64 i))], hp := [cfgC c0 a1 a2 a3 a4 a5 rs] }))
      (.leaf (.norm, S26 l n (IntKind.i64.wrap (i + 1)) (cfgC c0 a1 a2 a3 a4 a5 rs)))) .fail) .fail)
      (.leaf (.exit 0, { tm := [(0, .c (.lst intS l)), (1, .c (.fn 17 [(0, 0)])), (7, .c (.int .i64 n)), (8, .c (.int .i64 i)), (9, .c (.sb (decide (i < n))))], hp := [cfgC c0 a1 a2 a3 a4 a5 rs] })) := by kernel_rfl
/-- the first index at which it is so; -1: there is none -/
def fidx {α : Type} (f : α → Bool) : List α → Int → Int
  | [], _ => -1
  | x :: r, i => bif f x then i else fidx f r (i + 1)
theorem wrap64_id {n : Int} (h0 : -9223372036854775808 ≤ n) (h1 : n ≤ 9223372036854775807) : IntKind.i64.wrap n = n := by
  unfold IntKind.wrap
  simp only [IntKind.signed, IntKind.bits, Bool.true_and, ge_iff_le, decide_eq_true_eq]
  split <;> omega
theorem getD_mid {α : Type} (pre : List α) (x : α) (r : List α) (d : α) : (pre ++ x :: r).getD pre.length d = x := by
  simp [List.getD]
def F26 (c0 : Int) : Tup intS → Bool := fun x => deny c0 x.1
theorem it26 (c0 a1 a2 a3 a4 a5 : Int) (rs : List (Tup ruleS)) : (rest pre : List (Tup intS)) → (pre ++ rest).length < 4611686018427387904 →
    TEnds (fun y => (rest.any (F26 c0) = true ∧ y = (.ret, { tm := [(4, .c (.int .i64 (fidx (F26 c0) rest pre.length)))], hp := [cfgC c0 a1 a2 a3 a4 a5 rs] })) ∨ (rest.any (F26 c0) = false ∧ ∃ tm, y = (.exit 0, { tm := tm, hp := [cfgC c0 a1 a2 a3 a4 a5 rs] })))
      (iter (evCode XL26 (loopOf 0 (bodyOf Try.f26))) (rest.length + 1) (S26 (pre ++ rest) ((pre ++ rest).length : Nat) (pre.length : Nat) (cfgC c0 a1 a2 a3 a4 a5 rs)))
  | [], pre, hl => by
    refine TEnds.iter (.eq (body26 _ _ _ _ _ _ _ _ _ _) (.node (fun h => ?_) fun _ => .leaf (.inr ⟨rfl, _, rfl⟩)))
    simp at h
  | x :: r, pre, hl => by
    have hlen : (pre ++ x :: r).length = pre.length + (r.length + 1) := by simp
    refine TEnds.iter (.eq (body26 _ _ _ _ _ _ _ _ _ _) (.node (fun _ => .ok ?_ fun _ => .ok ?_ fun _ => .node (fun h => .leaf (.inl ?_)) fun h => .leaf ?_) fun h => ?_))
    · simp [inB]; omega
    · simp
    · rw [Int.toNat_natCast, getD_mid] at h
      have hF : F26 c0 x = true := h
      exact ⟨by simp [hF], by simp [fidx, hF]⟩
    · rw [Int.toNat_natCast, getD_mid] at h
      have hF : F26 c0 x = false := h
      have e : IntKind.i64.wrap ((pre.length : Nat) + 1) = ((pre ++ [x]).length : Nat) := by rw [wrap64_id (by omega) (by omega)]; simp
      have e2 : pre ++ x :: r = (pre ++ [x]) ++ r := by simp
      have := it26 c0 a1 a2 a3 a4 a5 rs r (pre ++ [x]) (by rw [← e2]; exact hl)
      simp only
      rw [e, e2]
      refine this.mono fun y hy => ?_
      simpa [fidx, hF] using hy
    · simp at h; omega
end Go.Proofs.Ytnngcneobkfijaa
