/- TenantMay: the law's loop. -/
import Derived.Test.YtnngcneobkfijaaG4
set_option maxRecDepth 100000
namespace Go.Proofs.Ytnngcneobkfijaa
open Go.Eng
def q3 (p : Int) : Int := IntKind.i64.wrap (IntKind.i64.wrap (p.tmod 16) * 2)
theorem u64_small {x : Int} (h0 : 0 ≤ x) (h1 : x ≤ 9223372036854775807) : IntKind.u64.wrap x = x := by rw [IntKind.wrap_u64]; omega
theorem deny_one (p x : Int) : (!deny (q3 p) x) = one3 p x := by
  unfold deny one3
  by_cases h1 : (1 : Int) ≤ x
  · by_cases h2 : x ≤ 4
    · have e : IntKind.u64.wrap x = x := u64_small (by omega) (by omega)
      simp only [ge_iff_le, h1, h2, decide_true, Bool.true_and, cond_true, Bool.not_not, bit1, e, q3]
    · simp [h1, h2]
  · simp [h1]
theorem mget_a1 (c : Tup cfgS) : mget a1 [(a1, c)] = some c := by
  simp only [mget, mget_beq, decide_true, cond_true]
theorem all_not {α : Type} {f g : α → Bool} (h : ∀ x, f x = !g x) : (l : List α) → l.all f = !(l.any g)
  | [] => rfl
  | x :: r => by rw [List.all_cons, List.any_cons, all_not h r, h x, Bool.not_or]
theorem may_any (l : List (Tup intS)) (p : Int) (c : Tup cfgS) (hc : c.1 = q3 p) : (may9 a1 l [(a1, c)] == 0) = l.all fun x => one3 p x.1 := by
  have ec : ((mget a1 [(a1, c)]).getD (dTup cfgS)).1 = q3 p := by rw [mget_a1]; exact hc
  have e : (l.all fun x => one3 p x.1) = !(l.any (F26 (q3 p))) := all_not (fun x => (deny_one p x.1).symm) l
  unfold may9
  rw [ec, mget_a1, e]
  cases l.any (F26 (q3 p)) <;> rfl
theorem guard3 (n : Int) : (true && (true && (!decide (n ≥ 1) || true && (true && (!decide (n ≤ 4) || true && (true && !decide (IntKind.u64.wrap n < 0))))))) = true := by
  by_cases h1 : (1 : Int) ≤ n
  · by_cases h2 : n ≤ 4
    · have e : IntKind.u64.wrap n = n := u64_small (by omega) (by omega)
      have h3 : decide (n < 0) = false := by simp; omega
      rw [e, h3]; simp
    · simp [h2]
  · simp [h1]
theorem it3 (p : Int) (c : Tup cfgS) (hc : c.1 = q3 p) : (rest pre : List (Tup intS)) → (all : Bool) → (pre ++ rest).length < 4611686018427387904 →
    TEnds (fun y => ∃ b, y = (.exit 0, { tm := [(0, .c (.int .u8 p)), (1, .c (.lst intS (pre ++ rest))), (5, .c (.ref 0 0)), (6, .c (.sb (all && rest.all fun x => one3 p x.1))), (7, .c (.int .i64 ((pre ++ rest).length : Nat))), (31, .c (.sb b))], hp := bookH [(a1, c)] }))
      (iter (evCode XL3 (loopOf 0 (bodyOf Try.f3))) (rest.length + 1) (S3 p (pre ++ rest) all (pre.length : Nat) c))
  | [], pre, all, hl => by
    refine TEnds.iter (.eq (body3 _ _ _ _ _) (.node (fun h => ?_) fun _ => .leaf ⟨decide (((pre.length : Nat) : Int) < ((pre ++ []).length : Nat)), ?_⟩))
    · simp at h
    · simp only [List.all_nil, Bool.and_true, List.append_nil]
  | x :: r, pre, all, hl => by
    have hlen : (pre ++ x :: r).length = pre.length + (r.length + 1) := by simp
    have hx : at3 (pre ++ x :: r) (pre.length : Nat) = x.1 := by unfold at3; rw [Int.toNat_natCast, getD_mid]
    have hin : inB ((pre.length : Nat) : Int) (pre ++ x :: r).length = true := by simp [inB]; omega
    have hlt : decide (((pre.length : Nat) : Int).toNat < (pre ++ x :: r).length) = true := by simp
    refine TEnds.iter (.eq (body3 _ _ _ _ _) (.node (fun _ => .ok ?_ fun _ => .ok ?_ fun _ => .node (fun h => ?_) fun h => .leaf ?_) fun h => ?_))
    · rw [hin, hlt, hx]
      exact guard3 x.1
    · rw [hin, hlt]; show (true && (true && decide ((1 : Nat) < 4611686018427387904))) = true; rfl
    · rw [may_any _ p c hc] at h
      have e1 : (List.all (α := Tup intS) [(at3 (pre ++ x :: r) (pre.length : Nat), ())] fun x => one3 p x.1) = one3 p (at3 (pre ++ x :: r) (pre.length : Nat)) := Bool.and_true _
      rw [e1] at h
      simp at h
    · have e : IntKind.i64.wrap ((pre.length : Nat) + 1) = ((pre ++ [x]).length : Nat) := by rw [wrap64_id (by omega) (by omega)]; simp
      have e2 : pre ++ x :: r = (pre ++ [x]) ++ r := by simp
      have := it3 p c hc r (pre ++ [x]) (bif all then one3 p x.1 else false) (by rw [← e2]; exact hl)
      simp only
      rw [hx, e, e2]
      refine this.mono fun y hy => ?_
      obtain ⟨b, rfl⟩ := hy
      refine ⟨b, ?_⟩
      cases all <;> simp
    · simp at h; omega
end Go.Proofs.Ytnngcneobkfijaa
