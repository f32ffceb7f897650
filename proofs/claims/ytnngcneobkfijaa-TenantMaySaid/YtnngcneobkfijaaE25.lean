/- The engine, part 25: a law's call, out of its contract. -/
import Derived.Test.YtnngcneobkfijaaE24
set_option linter.unusedSimpArgs false
set_option linter.unusedVariables false
namespace Go.Eng
open Go.ChangeShapes Go.WideShapes Go.ChangeAt Go.RowKit

def oldB (W : World) : Nat → Prop := fun b => b < W.heap.size
def noRho : Rho := fun _ => none

theorem relH_empty (W : World) : RelH (obOf []) noRho (oldB W) W :=
  ⟨(fun id o h => by simp [obOf] at h), (fun id x h => by cases h), (fun id id' o o' x x' h => by simp [obOf] at h), (fun id o x h => by simp [obOf] at h), fun _ h => h⟩

/-- A law that says true leaves all that was there as it was. -/
theorem calls_true {P : Program} {k : FuncId} {fn : Func} {body : Code} (hf : P.funcs[k]? = some fn) (hb : fn.body = some body) (hname : (fn.name == "runtime.NumGoroutine") = false) {args : List V} {c : C} {kn : Bool} (hT : Triple P k args [] (.pure (.c c))) (hc : asB c = some (true, kn))
    {W : World} {vals : Array Value} (hargs : Rvs W (oldB W) noRho args vals.toList) : Calls P k vals W fun e W' => e = .returned (.bool true) ∧ Below W.heap.size W W' := by
  have hent : (callFunc k vals).run P W = .ok (.enter k vals) W := by
    have hname' : ¬ fn.name = "runtime.NumGoroutine" := by simpa using hname
    simp [callFunc, hf, hname', hb]
  rcases hT noRho (oldB W) W vals (relH_empty W) (fun id x h => (by cases h)) hargs with ⟨_, h⟩ | ⟨cv, w', h, _⟩
  · refine Calls.mono h fun e W' hh => ?_
    obtain ⟨cv, rfl, I', hp⟩ := hh
    have := asB_ok hp.rel hc
    subst this
    exact ⟨rfl, hp.os, hp.tape, hp.output, hp.size, hp.old⟩
  · rw [hent] at h; cases h

def headV : List C → V
  | [x] => .c x
  | _ => .tup []
/-- an argument of plain data -/
def argV (P : Program) (t : TypeId) (S : Shs) (x : Tup S) : V := bif aggT P t then .agg (cellsT S x) else headV (cellsT S x)

theorem arg_data {H : Type} {enc : TypeId × Value → H} {P : Program} {W : World} {r : Reach} {base base' : Nat} {sp : Nat → Bool} {held : Bool} {n : Nat} {t : TypeId} {S : Shs} (hl : lay P n t = some S) {v : Value} {d : DataW H} {ps : List MemPlace}
    (hval : Value.okWide P W r base t v) (hd : DataW.Trod enc P W base' sp held t v d ps) : ∃ x : Tup S, WfT S x ∧ Rv W (oldB W) noRho (argV P t S x) v := by
  obtain ⟨fuel, hd⟩ := hd
  obtain ⟨x, h1, h2⟩ := trod_data (I := oldB W) (ρ := noRho) (fun _ h => h) n t S hl fuel _ d ps hd
  refine ⟨x, h2, ?_⟩
  unfold argV
  cases ha : aggT P t with
  | true =>
    have : ∃ cs, v = .agg cs := by
      unfold aggT at ha
      unfold Value.okWide at hval
      split at hval
      · obtain ⟨cs, h, _⟩ := hval; exact ⟨cs, h⟩
      · obtain ⟨cs, h, _⟩ := hval; exact ⟨cs, h⟩
      · rename_i hn1 hn2
        split at ha
        · rename_i fs hu; exact absurd hu (hn1 fs)
        · rename_i m e hu; exact absurd hu (hn2 m e)
        · cases ha
    obtain ⟨cs, rfl⟩ := this
    exact ⟨cs, rfl, by simpa [Value.cells] using h1⟩
  | false =>
    have hv : ∀ cs, v ≠ .agg cs := by
      rintro cs rfl
      unfold aggT at ha
      unfold Value.okWide at hval
      split at hval
      · rename_i fs hu; rw [hu] at ha; cases ha
      · rename_i m e hu; rw [hu] at ha; cases ha
      · simp [Cell.okWide, Cell.ok] at hval
    have hcell : v.cells = #[v] := by cases v <;> first | rfl | exact absurd rfl (hv _)
    rw [hcell] at h1
    simp only [cond_false]
    match hq : cellsT S x, h1 with
    | [c], h1 => exact h1.1
    | [], h1 => exact h1.elim
    | _ :: _ :: _, ⟨_, h1⟩ => exact h1.elim
end Go.Eng
