/- (*Book).May. -/
import Derived.Test.YtnngcneobkfijaaG3
set_option maxRecDepth 100000
namespace Go.Proofs.Ytnngcneobkfijaa
open Go.Eng
noncomputable def envD2 : List (Nat × Bool × Eng.Spec) := (16, false, spec16) :: envD1
theorem envD2Ok : EnvOk Try.prog (envOf envD2) := envOf_cons ok16' envD1Ok
abbrev cfgS : Shs := .cons (.int .i64) (.cons (.int .i64) (.cons (.int .i64) (.cons (.int .i64) (.cons (.int .i64) (.cons (.int .i64) (.cons (.lst ruleS) .nil))))))
noncomputable def XF9 : Ctx := ⟨Try.prog, envOf envD2, [0, 1, 2, 6, 7, 8, 19, 22].foldl (fun a x => a + 2 ^ x) 0, fun _ _ => none, 1, [(4, .keep (2^6+2^22)), (4, .gc), (3, .keep (2^6)), (3, .gc)], 2, 0⟩
def bookH (es : List (ByteArray × Tup cfgS)) : Heap := [some (.box [.mp 1]), some (.map true cfgS es)]
def ans9 (s : ByteArray) (l : List (Tup intS)) (es : List (ByteArray × Tup cfgS)) : Tree (V × Heap) :=
  .node (!(mget s es).isSome) (.leaf (.c (.lit .i64 18), bookH es))
    (.node (decide (l.length < 4611686018427387904)) (.node (l.any (F26 ((mget s es).getD (dTup cfgS)).1)) (.leaf (.c (.lit .i64 17), bookH es)) (.leaf (.c (.lit .i64 0), bookH es))) .fail)
theorem fn9_is (s : ByteArray) (l : List (Tup intS)) (es : List (ByteArray × Tup cfgS)) : evFn XF9 Try.f9 (bodyOf Try.f9) [.c (.ref 0 0), .c (.str s), .c (.lst intS l)] (bookH es) = ans9 s l es := by kernel_rfl
/-- why this tenant may not -/
def may9 (s : ByteArray) (l : List (Tup intS)) (es : List (ByteArray × Tup cfgS)) : Int := bif (mget s es).isSome then (bif l.any (F26 ((mget s es).getD (dTup cfgS)).1) then 17 else 0) else 18
def spec9 : Eng.Spec := patSpec [.c (.ref 0 0), .c .str, .c (.lst intS)] [.box [.mp 1], .map true cfgS] fun x d =>
  .node (decide (List.length (α := Tup intS) x.2.2.1 < 4611686018427387904)) (.leaf (.full (.c (.int .i64 (may9 x.2.1 x.2.2.1 d.2.1))) (bookH d.2.1))) .fail
theorem fn9_core (s : ByteArray) (l : List (Tup intS)) (es : List (ByteArray × Tup cfgS)) (r : Res) (m : List Eng.Obj) (hr : (Tree.node (decide (l.length < 4611686018427387904)) (.leaf (Res.full (.c (.int .i64 (may9 s l es))) (bookH es))) .fail).run = some r) :
    TEnds (fun y => ResOk m y.1 y.2 r) (evFn XF9 Try.f9 (bodyOf Try.f9) [.c (.ref 0 0), .c (.str s), .c (.lst intS l)] (bookH es)) := by
  obtain ⟨hl, hr⟩ := node_fail hr
  cases leaf_run hr
  have wk : ∀ n : Int, n = may9 s l es → Wk (.c (.lit .i64 n)) (.c (.int .i64 (may9 s l es))) := fun n h _ _ _ _ hv => h ▸ hv
  refine .eq (fn9_is s l es) (.node (fun h => .leaf ⟨wk _ ?_, WkH.refl _⟩) fun h => .ok hl fun _ => .node (fun h2 => .leaf ⟨wk _ ?_, WkH.refl _⟩) fun h2 => .leaf ⟨wk _ ?_, WkH.refl _⟩)
  · simp only [Bool.not_eq_true'] at h
    simp [may9, h]
  · simp only [Bool.not_eq_false'] at h
    simp only [may9, h, cond_true, h2]
  · simp only [Bool.not_eq_false'] at h
    simp only [may9, h, cond_true, h2, cond_false]
theorem ok9' : SpecOk Try.prog 9 spec9 :=
  fn_pat mixed Try.func9 (body := bodyOf Try.f9) (by kernel_rfl) (by kernel_rfl) (by kernel_rfl) (by kernel_rfl) rfl fun x d _ hr => ⟨XF9, rfl, envD2Ok, LpOk.none, fn9_core x.2.1 x.2.2.1 d.2.1 _ _ hr⟩
/- the law's loop -/
noncomputable def envD3 : List (Nat × Bool × Eng.Spec) := [(9, false, spec9)]
theorem envD3Ok : EnvOk Try.prog (envOf envD3) := envOf_cons ok9' envOf_nil
noncomputable def XL3 : Ctx := ⟨Try.prog, envOf envD3, [0, 1, 4, 5, 6, 7, 8, 9, 11, 14, 27, 31, 69, 74].foldl (fun a x => a + 2 ^ x) 0, fun _ _ => none, 1, [(13, .gc), (14, .keep (2^4)), (14, .gc), (11, .loose), (11, .keep (2^0+2^1+2^5+2^6+2^7)), (11, .gc)], 0, 2^100-1⟩
def a1 : ByteArray := ⟨#[97, 45, 49]⟩
def S3 (p : Int) (l : List (Tup intS)) (all : Bool) (i : Int) (c : Tup cfgS) : St := { tm := [(0, .c (.int .u8 p)), (1, .c (.lst intS l)), (5, .c (.ref 0 0)), (6, .c (.sb all)), (7, .c (.int .i64 i))], hp := bookH [(a1, c)] }
def bit1 (q x : Int) : Bool := IntKind.i64.wrap ((BitVec.ofInt 64 (q.fdiv (2 ^ min (IntKind.u64.wrap x).toNat 64)) &&& BitVec.ofInt 64 1).toNat : Nat) == 1
def one3 (p x : Int) : Bool := bif decide (x ≥ 1) then bif decide (x ≤ 4) then bit1 (IntKind.i64.wrap (IntKind.i64.wrap (p.tmod 16) * 2)) x else false else false
def at3 (l : List (Tup intS)) (i : Int) : Int := (l.getD i.toNat (dTup intS)).1
theorem body3 (p : Int) (l : List (Tup intS)) (all : Bool) (i : Int) (c : Tup cfgS) : evCode XL3 (loopOf 0 (bodyOf Try.f3)) (S3 p l all i c) =
    .node (decide (i < l.length)) (.node (inB i l.length && (decide (i.toNat < l.length) && (!decide (at3 l i ≥ 1) || inB i l.length && (decide (i.toNat < l.length) && (!decide (at3 l i ≤ 4) || inB i l.length && (decide (i.toNat < l.length) && !decide (IntKind.u64.wrap (at3 l i) < 0)))))))
      (.node (inB i l.length && (decide (i.toNat < l.length) && decide (List.length (α := Tup intS) [(at3 l i, ())] < 4611686018427387904)))
        (.node ((may9 a1 [(at3 l i, ())] [(a1, c)] == 0) != one3 p (at3 l i)) (.leaf (.ret, { tm := [(4, .c .ff)], hp := [] }))
          (.leaf (.norm, S3 p l (bif all then one3 p (at3 l i) else false) (IntKind.i64.wrap (i + 1)) c))) .fail) .fail)
      (.leaf (.exit 0, { tm := [(0, .c (.int .u8 p)), (1, .c (.lst intS l)), (5, .c (.ref 0 0)), (6, .c (.sb all)), (7, .c (.int .i64 i)), (31, .c (.sb (decide (i < l.length))))], hp := bookH [(a1, c)] })) := by kernel_rfl
end Go.Proofs.Ytnngcneobkfijaa
