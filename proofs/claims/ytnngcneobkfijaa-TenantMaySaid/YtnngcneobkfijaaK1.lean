/- The contract of internal/bytealg.IndexByteString. -/
import Derived.Test.YtnngcneobkfijaaF0
set_option maxRecDepth 100000
namespace Go.Proofs.Ytnngcneobkfijaa
open Go.Eng
def idxI (s : ByteArray) (c : Int) : Int := match (List.range s.size).find? fun i => s[i]! == c.toNat.toUInt8 with
  | some i => (i : Int)
  | none => -1
def idxSpec : Eng.Spec := fun args m => match args, m with
  | [.c (.str s), .c x], [] => match asI x with
    | some (.u8, c, _) => .leaf (.pure (.c (.int .i64 (idxI s c))))
    | _ => .fail
  | _, _ => .fail
theorem find66 : Extern.find Try.f66 = some Extern.BytealgIndexByte.indexByte := by kernel_rfl
theorem next66 : (Extern.findNext Try.f66).isNone = true := by kernel_rfl
theorem idxOk : SpecOk Try.prog 66 idxSpec := by
  intro args m r he
  unfold idxSpec at he
  split at he
  · rename_i s x
    split at he
    · rename_i c kn hx
      cases leaf_run he
      intro ρ I w vals hH hdom hargs
      obtain ⟨l⟩ := vals
      match l, hargs with
      | [v1, v2], ⟨h1, h2, _⟩ =>
        have e1 : v1 = .string s := h1
        have e2 := asI_ok h2 hx
        subst e1
        subst e2
        refine .inr ⟨.int .i64 (idxI s c), w, ?_, I, rfl, rfl, rfl, Nat.le_refl _, fun _ _ => rfl, fun _ h => h, fun _ _ h => h, hH.immB, rfl⟩
        have hb : Try.f66.body = none := by kernel_rfl
        have hname : (Try.f66.name == "runtime.NumGoroutine") = false := by kernel_rfl
        have hname' : ¬ Try.f66.name = "runtime.NumGoroutine" := by simpa using hname
        have hnx : Extern.findNext Try.f66 = none := by simpa using next66
        have hrun : (Extern.BytealgIndexByte.indexByte #[.string s, .int .u8 c]).run Try.prog w = .ok (.int .i64 (idxI s c)) w := by
          have e : Extern.BytealgIndexByte.indexByte #[.string s, .int .u8 c] = (match (List.range s.size).find? fun i => s[i]! == c.toNat.toUInt8 with
            | some i => pure (goInt (i : Int))
            | none => pure (goInt (-1))) := rfl
          rw [e]
          unfold idxI
          cases hq : (List.range s.size).find? fun i => s[i]! == c.toNat.toUInt8 <;> simp [goInt]
        simp [callFunc, Try.func66, hname', hb, hnx, find66, hrun]
      | [], h => exact h.elim
      | [_], ⟨_, h⟩ => exact h.elim
      | _ :: _ :: _ :: _, ⟨_, _, h⟩ => exact h.elim
    · exact (fail_run he).elim
  · exact (fail_run he).elim
end Go.Proofs.Ytnngcneobkfijaa
