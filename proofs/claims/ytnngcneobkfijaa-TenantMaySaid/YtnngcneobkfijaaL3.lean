/- TenantMay: whatever its arguments are, the law says true and leaves all that was there as it was. Conditions: none beyond the given statement. -/
import Derived.Test.YtnngcneobkfijaaRows
import Derived.ProofKit
import Derived.Test.YtnngcneobkfijaaE25
import Derived.Test.YtnngcneobkfijaaG6
set_option maxRecDepth 100000
namespace Go.Proofs.Ytnngcneobkfijaa
open Go.ChangeShapes Go.WideShapes Go.ChangeAt Go.RowKit Go.Eng

theorem Try.own : ownKnob Try.prog.godebug = none := by kernel_rfl
theorem Try.laidOut : laidOutB Try.prog = true := by kernel_rfl

theorem arg5 (t : Tup (.cons (.int .u8) .nil)) : argV Try.prog 5 (.cons (.int .u8) .nil) t = .c (.int .u8 t.1) := by kernel_rfl
theorem arg22 (t : Tup (.cons (.lst intS) .nil)) : argV Try.prog 22 (.cons (.lst intS) .nil) t = .c (.lst intS t.1) := by kernel_rfl
theorem law3 (t : Tup (.cons (.int .u8) .nil)) (ht : WfT (.cons (.int .u8) .nil) t) (u : Tup (.cons (.lst intS) .nil)) : ∃ c kn, asB c = some (true, kn) ∧ Triple Try.prog 3 [argV Try.prog 5 (.cons (.int .u8) .nil) t, argV Try.prog 22 (.cons (.lst intS) .nil) u] [] (.pure (.c c)) := by
  rw [arg5, arg22]
  exact law3_core _ _ ht.1.1

theorem tenantMay_lifted (os : Os) (started : os.Started) (H : Type) (enc : TypeId × Value → H) :
    ReturnsInHanded {} Try.checked os 3 .any (Rows.tenantMaySpec.pre6 enc Try.prog Try.f3 Rows.tenantMayRow.domain false) (Rows.tenantMaySpec.post enc Try.prog Try.f3 false true false false) := by
  refine returnsInHanded_of_change (C := Try.checked) Try.own started (by kernel_rfl) Try.func3
    (ChangeSpec.witness6 (enc := enc) (C := Try.checked) false ⟨#[], #[.int .u8 0, .slice none 0 0], []⟩ 8 (by kernel_rfl) (by kernel_rfl) (by kernel_rfl) (by kernel_rfl)) ?_
  intro W base args ds gs before hval0 hW hcnd _
  have hval : ∀ (j : Nat) t v, Try.f3.params[j]? = some t → args[j]? = some v → Value.okWide Try.prog W .any base t v := hval0
  have hW' := hW
  obtain ⟨p, q, hA0, hV, rfl, hfz, hnd⟩ := hW
  have hA : DataW.TrodAll enc Try.prog W 0 (fun _ => true) true Try.f3.params.toList args.toList ds p := hA0
  rw [Try.params3] at hA hval
  obtain ⟨v0, v1, d0, d1, p0, p1, rfl, rfl, rfl, h0, h1⟩ := trodAll_two hA
  obtain ⟨rfl, rfl⟩ := trodVars_none hV
  obtain ⟨x0, w0, r0⟩ := arg_data (n := 4) (show lay Try.prog 3 5 = some (.cons (.int .u8) .nil) by kernel_rfl) (hval 0 5 v0 rfl rfl) h0
  obtain ⟨x1, w1, r1⟩ := arg_data (n := 4) (show lay Try.prog 3 22 = some (.cons (.lst intS) .nil) by kernel_rfl) (hval 1 22 v1 rfl rfl) h1
  obtain ⟨c, kn, hc, hT⟩ := law3 x0 w0 x1
  refine (calls_true (k := 3) (body := bodyOf Try.f3) Try.func3 (by kernel_rfl) (by kernel_rfl) hT hc (vals := #[v0, v1]) ⟨r0, r1, trivial⟩).mono fun e W' ⟨he, hb⟩ => ?_
  subst he
  have hlt : ∀ x ∈ p0 ++ p1, x.block < W.heap.size := fun x hx => by simpa using hW'.lt x (by simpa using hx)
  refine ⟨_, rfl, post_of_below (pa := p0 ++ p1) (pv := []) hW' (fun _ _ _ => trodAll_mk1 (shut_bool Try.underlying4 true)) (fun sp hsp => trodAll_mk2
      (WideElems.Trod_stays Try.laidOut (by kernel_rfl) (of_decide_eq_true (by kernel_rfl)) h0 (fun x hx => hb.same (hlt x (List.mem_append_left _ hx))) (fun x hx => hsp x (by simpa using .inl hx)))
      (WideElems.Trod_stays Try.laidOut (by kernel_rfl) (of_decide_eq_true (by kernel_rfl)) h1 (fun x hx => hb.same (hlt x (List.mem_append_right _ hx))) (fun x hx => hsp x (by simpa using .inr hx)))) (fun _ _ => rfl) (by simp) hb
    (ok_one (by kernel_rfl) rfl (okWide_bool_mk Try.underlying4 true))⟩

theorem tenantMay_holds : Rows.TenantMaySaid :=
  OpenClaim.holds_of_wide 3 Try.f3 rfl rfl rfl rfl rfl rfl rfl ⟨rfl, rfl, rfl, rfl, rfl⟩ rfl rfl rfl rfl rfl (by kernel_rfl) Try.func3 (by kernel_rfl)
    (of_decide_eq_true (by kernel_rfl)) (by unfold Func.isWrapper; first | (rw [if_pos (by decide +kernel)]; kernel_rfl) | (rw [if_neg (by decide +kernel)]; exact ⟨rfl, rfl⟩))
    (fun os started H enc _ => tenantMay_lifted os started H enc)
end Go.Proofs.Ytnngcneobkfijaa
