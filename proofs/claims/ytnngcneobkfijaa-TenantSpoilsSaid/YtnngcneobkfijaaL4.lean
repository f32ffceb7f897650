/- TenantSpoils: whatever its argument is, the law says true and leaves all that was there as it was. Conditions: none beyond the given statement. -/
import Derived.Test.YtnngcneobkfijaaRows
import Derived.ProofKit
import Derived.Test.YtnngcneobkfijaaE25
import Derived.Test.YtnngcneobkfijaaL4A
import Derived.Test.YtnngcneobkfijaaL4B
set_option maxRecDepth 100000
namespace Go.Proofs.Ytnngcneobkfijaa
open Go.ChangeShapes Go.WideShapes Go.ChangeAt Go.RowKit Go.Eng

theorem Try.own : ownKnob Try.prog.godebug = none := by kernel_rfl
theorem Try.laidOut : laidOutB Try.prog = true := by kernel_rfl

theorem spoils_all (n : Int) (h0 : 0 ≤ n) : Triple Try.prog 4 [.c (.int .u8 n)] [] (.pure (.c .tt)) := by
  have hlt : Int.tmod n 14 < 14 := Int.tmod_lt_of_pos n (by omega)
  have hge : 0 ≤ Int.tmod n 14 := Int.tmod_nonneg 14 h0
  have hc : Int.tmod n 14 = 0 ∨ Int.tmod n 14 = 1 ∨ Int.tmod n 14 = 2 ∨ Int.tmod n 14 = 3 ∨ Int.tmod n 14 = 4 ∨ Int.tmod n 14 = 5 ∨ Int.tmod n 14 = 6 ∨ Int.tmod n 14 = 7 ∨ Int.tmod n 14 = 8 ∨ Int.tmod n 14 = 9 ∨ Int.tmod n 14 = 10 ∨ Int.tmod n 14 = 11 ∨ Int.tmod n 14 = 12 ∨ Int.tmod n 14 = 13 := by omega
  rcases hc with hr | hr | hr | hr | hr | hr | hr | hr | hr | hr | hr | hr | hr | hr
  · exact ok4 0 _ _ _ (Tree.runS_ok _ _ (spoils0 n) (by simp [hr])).1
  · exact ok4 1 _ _ _ (Tree.runS_ok _ _ (spoils1 n) (by simp [hr])).1
  · exact ok4 2 _ _ _ (Tree.runS_ok _ _ (spoils2 n) (by simp [hr])).1
  · exact ok4 3 _ _ _ (Tree.runS_ok _ _ (spoils3 n) (by simp [hr])).1
  · exact ok4 4 _ _ _ (Tree.runS_ok _ _ (spoils4 n) (by simp [hr])).1
  · exact ok4 5 _ _ _ (Tree.runS_ok _ _ (spoils5 n) (by simp [hr])).1
  · exact ok4 6 _ _ _ (Tree.runS_ok _ _ (spoils6 n) (by simp [hr])).1
  · exact ok4 7 _ _ _ (Tree.runS_ok _ _ (spoils7 n) (by simp [hr])).1
  · exact ok4 8 _ _ _ (Tree.runS_ok _ _ (spoils8 n) (by simp [hr])).1
  · exact ok4 9 _ _ _ (Tree.runS_ok _ _ (spoils9 n) (by simp [hr])).1
  · exact ok4 10 _ _ _ (Tree.runS_ok _ _ (spoils10 n) (by simp [hr])).1
  · exact ok4 11 _ _ _ (Tree.runS_ok _ _ (spoils11 n) (by simp [hr])).1
  · exact ok4 12 _ _ _ (Tree.runS_ok _ _ (spoils12 n) (by simp [hr])).1
  · exact ok4 13 _ _ _ (Tree.runS_ok _ _ (spoils13 n) (by simp [hr])).1
theorem arg5 (t : Tup (.cons (.int .u8) .nil)) : argV Try.prog 5 (.cons (.int .u8) .nil) t = .c (.int .u8 t.1) := by kernel_rfl
theorem law4 (t : Tup (.cons (.int .u8) .nil)) (ht : WfT (.cons (.int .u8) .nil) t) : ∃ c kn, asB c = some (true, kn) ∧ Triple Try.prog 4 [argV Try.prog 5 (.cons (.int .u8) .nil) t] [] (.pure (.c c)) := by
  rw [arg5]
  exact ⟨.tt, true, rfl, spoils_all _ ht.1.1⟩

theorem tenantSpoils_lifted (os : Os) (started : os.Started) (H : Type) (enc : TypeId × Value → H) :
    ReturnsInHanded {} Try.checked os 4 .any (Rows.tenantSpoilsSpec.pre6 enc Try.prog Try.f4 Rows.tenantSpoilsRow.domain false) (Rows.tenantSpoilsSpec.post enc Try.prog Try.f4 false true false false) := by
  refine returnsInHanded_of_change (C := Try.checked) Try.own started (by kernel_rfl) Try.func4
    (ChangeSpec.witness6 (enc := enc) (C := Try.checked) false ⟨#[], #[.int .u8 0], []⟩ 8 (by kernel_rfl) (by kernel_rfl) (by kernel_rfl) (by kernel_rfl)) ?_
  intro W base args ds gs before hval0 hW hcnd _
  have hval : ∀ (j : Nat) t v, Try.f4.params[j]? = some t → args[j]? = some v → Value.okWide Try.prog W .any base t v := hval0
  have hW' := hW
  obtain ⟨p, q, hA0, hV, rfl, hfz, hnd⟩ := hW
  have hA : DataW.TrodAll enc Try.prog W 0 (fun _ => true) true Try.f4.params.toList args.toList ds p := hA0
  rw [Try.params4] at hA hval
  obtain ⟨v0, d0, rfl, rfl, h0⟩ := trodAll_one hA
  obtain ⟨rfl, rfl⟩ := trodVars_none hV
  obtain ⟨x0, w0, r0⟩ := arg_data (n := 4) (show lay Try.prog 4 5 = some (.cons (.int .u8) .nil) by kernel_rfl) (hval 0 5 v0 rfl rfl) h0
  obtain ⟨c, kn, hc, hT⟩ := law4 x0 w0
  refine (calls_true (k := 4) (body := bodyOf Try.f4) Try.func4 (by kernel_rfl) (by kernel_rfl) hT hc (vals := #[v0]) ⟨r0, trivial⟩).mono fun e W' ⟨he, hb⟩ => ?_
  subst he
  have hlt : ∀ x ∈ p, x.block < W.heap.size := fun x hx => by simpa using hW'.lt x (by simpa using hx)
  refine ⟨_, rfl, post_of_below (pa := p) (pv := []) hW' (fun _ _ _ => trodAll_mk1 (shut_bool Try.underlying4 true)) (fun sp hsp => trodAll_mk1 (WideElems.Trod_stays Try.laidOut (by kernel_rfl) (of_decide_eq_true (by kernel_rfl)) h0 (fun x hx => hb.same (hlt x hx)) (fun x hx => hsp x (by simpa using hx)))) (fun _ _ => rfl) (by simp) hb
    (ok_one (by kernel_rfl) rfl (okWide_bool_mk Try.underlying4 true))⟩

theorem tenantSpoils_holds : Rows.TenantSpoilsSaid :=
  OpenClaim.holds_of_wide 4 Try.f4 rfl rfl rfl rfl rfl rfl rfl ⟨rfl, rfl, rfl, rfl, rfl⟩ rfl rfl rfl rfl rfl (by kernel_rfl) Try.func4 (by kernel_rfl)
    (of_decide_eq_true (by kernel_rfl)) (by unfold Func.isWrapper; first | (rw [if_pos (by decide +kernel)]; kernel_rfl) | (rw [if_neg (by decide +kernel)]; exact ⟨rfl, rfl⟩))
    (fun os started H enc _ => tenantSpoils_lifted os started H enc)
end Go.Proofs.Ytnngcneobkfijaa
