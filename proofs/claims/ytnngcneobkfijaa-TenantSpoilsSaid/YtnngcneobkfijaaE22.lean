/- The engine, part 22: a callee reckoned in its place. -/
import Derived.Test.YtnngcneobkfijaaE21
set_option linter.unusedSimpArgs false
set_option linter.unusedVariables false
namespace Go.Eng
section
variable {P : Program} {w : World} {I : Nat → Prop} {ρ : Rho}

theorem noIds_c {g : Nat → Nat} {c : C} (h : idsC c = []) : renC g c = c := by
  cases c <;> first | rfl | (simp [idsC] at h)
  rename_i k caps
  subst h
  rfl
theorem noIds_cs {g : Nat → Nat} : {cs : List C} → cs.flatMap idsC = [] → cs.map (renC g) = cs
  | [], _ => rfl
  | c :: cs, h => by
    rw [List.flatMap_cons, List.append_eq_nil_iff] at h
    rw [List.map_cons, noIds_c h.1, noIds_cs h.2]
theorem noIds_ws {g : Nat → Nat} : {cs : List W} → cs.flatMap idsW = [] → cs.map (renW g) = cs
  | [], _ => rfl
  | c :: cs, h => by
    rw [List.flatMap_cons, List.append_eq_nil_iff] at h
    rw [List.map_cons, noIds_ws h.2]
    congr 1
    cases c with
    | c x => exact congrArg W.c (noIds_c h.1)
    | agg xs => exact congrArg W.agg (noIds_cs h.1)
theorem noIds_v {g : Nat → Nat} {v : V} (h : idsV v = []) : renV g v = v := by
  cases v with
  | c x => exact congrArg V.c (noIds_c h)
  | agg xs => exact congrArg V.agg (noIds_cs h)
  | tup ws => exact congrArg V.tup (noIds_ws h)

theorem Triple.pure {k : FuncId} {args : List V} {v : V} {m' : Heap} (h : Triple P k args [] (.full v m')) (hv : idsV v = []) : Triple P k args [] (.pure v) := by
  intro ρ I w vals hH hdom hargs
  refine (h ρ I w vals hH hdom hargs).mono fun cv w' hh => ?_
  obtain ⟨ρ', I', he⟩ := hh
  have hna : ∀ b, ¬ ActB (obOf []) ρ b := fun b ⟨id, o, x, h1, _⟩ => by simp [obOf] at h1
  refine ⟨I', he.ext.os, he.ext.tape, he.ext.output, he.ext.size, fun b hb => he.ext.frame b hb (hna b), he.ext.imm, fun b hb hi => ?_, he.heap.immB, ?_⟩
  · rcases he.ext.immNew b hb hi with h | h
    · exact h
    · exact absurd h (hna b)
  · have := Rv.ren (ρ' := ρ) (g := fun i => i) (fun id hid => by rw [hv] at hid; cases hid) he.rel
    rwa [noIds_v hv] at this

/-- what a reckoning answers as a contract -/
def asRes (m : List Obj) (r : V × Heap) : Res := bif m.isEmpty && (idsV r.1).isEmpty then .pure r.1 else .full r.1 r.2
noncomputable def evSpec (X : Ctx) (fn : Func) (body : Code) : Spec := fun args m => bif Nat.ble args.length fn.ntmps then (evFn X fn body args (m.map some)).bind fun r => .leaf (asRes m r) else .fail

theorem evSpec_ok {X : Ctx} {fn : Func} {body : Code} {k : FuncId} (hmix : X.P.follows .mixedOrders = true) (hE : EnvOk X.P X.E) (hf : X.P.funcs[k]? = some fn) (hb : fn.body = some body) (hname : (fn.name == "runtime.NumGoroutine") = false)
    (hc : codeOk fn.ntmps body = true) (hl : ∀ k, lpOk (X.at k) fn.ntmps body) : SpecOk X.P k (evSpec X fn body) := by
  intro args m r he
  unfold evSpec at he
  cases hlen : Nat.ble args.length fn.ntmps with
  | false => rw [hlen] at he; exact (fail_run he).elim
  | true =>
    rw [hlen] at he
    obtain ⟨⟨v, m'⟩, h1, h2⟩ := bind_run he
    cases leaf_run h2
    have ht := evFn_ok hmix hE hf hb hname hc (Nat.le_of_ble_eq_true hlen) (hl _) h1
    unfold asRes
    cases hm : (m.isEmpty && (idsV v).isEmpty) with
    | false => exact ht
    | true =>
      simp only [Bool.and_eq_true, List.isEmpty_iff] at hm
      obtain ⟨rfl, hv⟩ := hm
      exact ht.pure hv

/-- contracts, by the function's number -/
def findSpec : List (Nat × Bool × Spec) → Nat → Option (Bool × Spec)
  | [], _ => none
  | (k, x) :: r, n => bif Nat.beq k n then some x else findSpec r n
def envOf (l : List (Nat × Bool × Spec)) : Env := ⟨findSpec l⟩
theorem envOf_nil : EnvOk P (envOf []) := fun k raw sp h => by cases h
theorem envOf_cons {k : Nat} {raw : Bool} {sp : Spec} {l : List (Nat × Bool × Spec)} (h : SpecOk P k sp) (hl : EnvOk P (envOf l)) : EnvOk P (envOf ((k, raw, sp) :: l)) := by
  intro k' raw' sp' he
  simp only [envOf, findSpec] at he
  cases hb : Nat.beq k k' with
  | true =>
    rw [hb] at he
    cases he
    rw [← Nat.eq_of_beq_eq_true hb]
    exact h
  | false =>
    rw [hb] at he
    exact hl k' raw' sp' he
end
end Go.Eng
