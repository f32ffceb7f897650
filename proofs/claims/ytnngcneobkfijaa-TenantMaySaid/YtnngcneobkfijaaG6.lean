/- TenantMay: the law's call. -/
import Derived.Test.YtnngcneobkfijaaG5
set_option maxRecDepth 100000
namespace Go.Proofs.Ytnngcneobkfijaa
open Go.Eng
def P3 : SP := ⟨[(0, .c (.int .u8)), (1, .c (.lst intS)), (5, .c (.ref 0 0)), (6, .c .sb), (7, .c (.int .i64))], [.box [.mp 1], .map true cfgS]⟩
def ans3 (p : Int) (l : List (Tup intS)) (all : Bool) (i : Int) : List (ByteArray × Tup cfgS) → Tree (Ex × St)
  | [(k, c)] => .node (all && decide (i = 0) && (k == a1) && decide ((show Int from c.1) = q3 p) && decide (l.length < 4611686018427387904))
      (.leaf (.norm, { tm := [(1, .c (.lst intS l)), (5, .c (.ref 0 0)), (6, .c (.sb (l.all fun x => one3 p x.1)))], hp := bookH [(k, c)] })) .fail
  | _ => .fail
theorem lp3_core (p : Int) (l : List (Tup intS)) (all : Bool) (i : Int) (es : List (ByteArray × Tup cfgS)) (e : Ex) (s : St) (hr : (ans3 p l all i es).run = some (e, s)) :
    ∃ fuel, TEnds (fun y => outOf 0 y.1 = e ∧ ∃ q d', s = SP.mk' q d' ∧ q.get y.2 = some d') (iter (evCode XL3 (loopOf 0 (bodyOf Try.f3))) fuel { tm := [(0, .c (.int .u8 p)), (1, .c (.lst intS l)), (5, .c (.ref 0 0)), (6, .c (.sb all)), (7, .c (.int .i64 i))], hp := bookH es }) := by
  unfold ans3 at hr
  split at hr
  · rename_i k c
    obtain ⟨hg, hr⟩ := node_fail hr
    cases leaf_run hr
    simp only [Bool.and_eq_true, decide_eq_true_eq] at hg
    obtain ⟨⟨⟨⟨ha, hi⟩, hk⟩, hc⟩, hl⟩ := hg
    rw [mget_beq] at hk
    have hk := of_decide_eq_true hk
    subst hi hk ha
    refine ⟨l.length + 1, TEnds.mono (it3 p c hc l [] true hl) fun y hy => ?_⟩
    obtain ⟨b, rfl⟩ := hy
    exact ⟨rfl, ⟨[(1, .c (.lst intS)), (5, .c (.ref 0 0)), (6, .c .sb)], [.box [.mp 1], .map true cfgS]⟩, ((l, (), (l.all fun x => one3 p x.1), ()), (((), ()), ([(a1, c)], ()))), rfl, rfl⟩
  · exact (fail_run hr).elim
noncomputable def lp3 : Nat → St → Option (Tree (Ex × St)) := lpPat 0 P3 fun d => ans3 d.1.1 d.1.2.1 d.1.2.2.2.1 d.1.2.2.2.2.1 d.2.2.1
theorem lp3Ok : LpOk Try.prog Try.f3.ntmps 0 (bodyOf Try.f3) lp3 :=
  loop_pat (X := XL3) mixed envD3Ok (by kernel_rfl) (by kernel_rfl) (by kernel_rfl) LpOk.none fun d e s hr => lp3_core d.1.1 d.1.2.1 d.1.2.2.2.1 d.1.2.2.2.2.1 d.2.2.1 e s hr
noncomputable def envM : List (Nat × Bool × Eng.Spec) := (9, false, spec9) :: envK
theorem envMOk : EnvOk Try.prog (envOf envM) := envOf_cons ok9' envKOk
noncomputable def XF3 : Ctx := ⟨Try.prog, envOf envM, [0, 1, 4, 5, 6, 7, 8, 9, 11, 14, 27, 31, 69, 74].foldl (fun a x => a + 2 ^ x) 0, lp3, 64, [(6, .gc), (8, .keep (2^0+2^1+2^5+2^6+2^7)), (9, .keep (2^0+2^1+2^5+2^6+2^7)), (9, .gc), (18, .loose)], 0, 0⟩
def a2 : ByteArray := ⟨#[97, 45, 50]⟩
def c3 (p : Int) : Tup cfgS := (q3 p, (1 : Int), (1 : Int), (1 : Int), (0 : Int), (0 : Int), ([] : List (Tup ruleS)), ())
def check3 (p : Int) : Bool := IntKind.i64.wrap ((BitVec.ofInt 64 (q3 p) &&& ~~~BitVec.ofInt 64 30).toNat : Nat) != 0
noncomputable def T3 (p : Int) (l : List (Tup intS)) : Tree (V × Heap) := evFn XF3 Try.f3 (bodyOf Try.f3) [.c (.int .u8 p), .c (.lst intS l)] []
theorem path_long (p : Int) (l : List (Tup intS)) : (T3 p l).runP [(0, true)] [] = some ([(decide ((l.length : Int) > 10), true)], (.c .tt, [])) := by kernel_rfl
def nilI : List (Tup intS) := []
def conds3 (p : Int) (l : List (Tup intS)) (c : Bool) : List (Bool × Bool) :=
  [(decide (nilI.length < 4611686018427387904), true), (may9 a2 l [(a1, c3 p)] == 18, true), (decide (l.length < 4611686018427387904), true), (may9 a1 l [(a1, c3 p)] == (bif c then 0 else 17), true), (decide (l.length < 4611686018427387904), true),
   (l.all (fun x => one3 p x.1), c), (true && decide ((0 : Int) = 0) && (a1 == a1) && decide (q3 p = q3 p) && decide (l.length < 4611686018427387904), true), (check3 p, false), (decide ((l.length : Int) > 10), false)]
theorem path_yes (p : Int) (l : List (Tup intS)) : (T3 p l).runP [(0, false), (17, false), (2, true), (0, true), (0, true), (0, true), (0, true), (0, true), (0, true)] [] = some (conds3 p l true, (.c (.sb (may9 a1 nilI [(a1, c3 p)] == 0)), bookH [(a1, c3 p)])) := by kernel_rfl
theorem path_no (p : Int) (l : List (Tup intS)) : (T3 p l).runP [(0, false), (17, false), (2, true), (0, false), (0, true), (0, true), (0, true), (0, true), (0, true)] [] = some (conds3 p l false, (.c (.sb (may9 a1 nilI [(a1, c3 p)] == 0)), bookH [(a1, c3 p)])) := by kernel_rfl
theorem check_no (p : Int) (h0 : 0 ≤ p) : check3 p = false := by
  have hlt : p.tmod 16 < 16 := Int.tmod_lt_of_pos p (by omega)
  have hge : 0 ≤ p.tmod 16 := Int.tmod_nonneg 16 h0
  unfold check3 q3
  generalize p.tmod 16 = r at hlt hge
  have hc : r = 0 ∨ r = 1 ∨ r = 2 ∨ r = 3 ∨ r = 4 ∨ r = 5 ∨ r = 6 ∨ r = 7 ∨ r = 8 ∨ r = 9 ∨ r = 10 ∨ r = 11 ∨ r = 12 ∨ r = 13 ∨ r = 14 ∨ r = 15 := by omega
  rcases hc with h | h | h | h | h | h | h | h | h | h | h | h | h | h | h | h <;> subst h <;> decide
theorem may_a2 (l : List (Tup intS)) (c : Tup cfgS) : may9 a2 l [(a1, c)] = 18 := by
  have e : mget a2 [(a1, c)] = none := by
    have : ¬ a2 = a1 := by decide
    simp only [mget, mget_beq, this, decide_false, cond_false]
  unfold may9
  rw [e]; rfl
theorem conds_ok (p : Int) (l : List (Tup intS)) (h0 : 0 ≤ p) (hl : ¬ (l.length : Int) > 10) (c : Bool) (hc : (l.all fun x => one3 p x.1) = c) : ∀ x ∈ conds3 p l c, x.1 = x.2 := by
  have hl2 : l.length < 4611686018427387904 := by omega
  have h1 : (may9 a1 l [(a1, c3 p)] == (bif c then 0 else 17)) = true := by
    have h := may_any l p (c3 p) rfl
    rw [hc] at h
    cases c with
    | true => exact h
    | false =>
      have h2 : may9 a1 l [(a1, c3 p)] = 0 ∨ may9 a1 l [(a1, c3 p)] = 17 := by
        unfold may9
        rw [mget_a1]
        cases l.any _ <;> first | exact .inl rfl | exact .inr rfl
      rcases h2 with h2 | h2
      · rw [h2] at h; cases h
      · rw [h2]; rfl
  have h2 : (may9 a2 l [(a1, c3 p)] == 18) = true := by rw [may_a2]; rfl
  have h3 : (a1 == a1) = true := by rw [mget_beq]; exact decide_eq_true rfl
  intro x hx
  simp only [conds3, List.mem_cons, List.not_mem_nil, or_false] at hx
  rcases hx with rfl | rfl | rfl | rfl | rfl | rfl | rfl | rfl | rfl
  · rfl
  · exact h2
  · exact decide_eq_true hl2
  · exact h1
  · exact decide_eq_true hl2
  · exact hc
  · simp [h3, hl2]
  · exact check_no p h0
  · exact decide_eq_false hl
theorem may_nil (p : Int) : (may9 a1 nilI [(a1, c3 p)] == 0) = true := may_any nilI p (c3 p) rfl
noncomputable def sp3 : Eng.Spec := evSpec XF3 Try.f3 (bodyOf Try.f3)
theorem law3_core (p : Int) (l : List (Tup intS)) (h0 : 0 ≤ p) : ∃ c kn, asB c = some (true, kn) ∧ Triple Try.prog 3 [.c (.int .u8 p), .c (.lst intS l)] [] (.pure (.c c)) := by
  have key : ∀ v m', (T3 p l).run = some (.c v, m') → idsC v = [] → Triple Try.prog 3 [.c (.int .u8 p), .c (.lst intS l)] [] (.pure (.c v)) := fun v m' h hi =>
    (evFn_ok (X := XF3) (m := []) mixed envMOk Try.func3 (body := bodyOf Try.f3) (by kernel_rfl) (by kernel_rfl) (by kernel_rfl) (Nat.le_of_ble_eq_true (by kernel_rfl)) (lpOk_of (X := XF3.at 0) _ lp3Ok) h).pure hi
  by_cases hl : (l.length : Int) > 10
  · refine ⟨.tt, true, rfl, key _ _ (Tree.runP_ok _ _ _ (path_long p l) ?_).1 rfl⟩
    intro x hx
    simp only [List.mem_cons, List.not_mem_nil, or_false] at hx
    subst hx
    exact decide_eq_true hl
  · cases hc : (l.all fun x => one3 p x.1) with
    | true => exact ⟨.sb (may9 a1 nilI [(a1, c3 p)] == 0), false, congrArg (fun b => some (b, false)) (may_nil p), key _ _ (Tree.runP_ok _ _ _ (path_yes p l) (conds_ok p l h0 hl true hc)).1 rfl⟩
    | false => exact ⟨.sb (may9 a1 nilI [(a1, c3 p)] == 0), false, congrArg (fun b => some (b, false)) (may_nil p), key _ _ (Tree.runP_ok _ _ _ (path_no p l) (conds_ok p l h0 hl false hc)).1 rfl⟩
end Go.Proofs.Ytnngcneobkfijaa
